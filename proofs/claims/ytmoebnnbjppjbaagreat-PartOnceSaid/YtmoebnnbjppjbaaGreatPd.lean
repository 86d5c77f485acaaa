/- Pd: texts of ours, one behind the other, in short writing (spaces and names cut by a program of ours): Dakg, Dplaw, Dpart, Dls, Dslot, Dslotp, Domap, Drow, Kd. -/
import Derived.Test.YtmoebnnbjppjbaaGreatProg
import Derived.Test.YtmoebnnbjppjbaaGreatPc
import Derived.Test.YtmoebnnbjppjbaaGreatPa
import Derived.Laws.CopyRow
import Derived.Laws.Externs
import Derived.Lib.AppendZerosOnto
import Derived.Lib.Overlaps
namespace Go.Proofs.YtmoebnnbjppjbaaGreat
open Go Go.Gp Go.Ga
set_option linter.unusedVariables false
def ch:TypeId→Option AK
 |1=>some (.one .any)
 |2=>some (.one (.int .i64))
 |3=>some (.one (.int .i64))
 |4=>some (.one .bool)
 |5=>some (.byte)
 |6=>some (.byte)
 |7=>some (.cons (.one (.int .i64)) (.cons (.one (.int .i64)) (.cons (.one .bool) (.one (.int .u8)))))
 |8=>some (.cons (.one (.int .i64)) (.cons (.one (.int .i64)) (.cons (.one .bool) (.one (.int .u8)))))
 |9=>some (.one .str)
 |10=>some (.one .str)
 |11=>some (.one .str)
 |12=>some (.one (.int .u64))
 |13=>some (.cons (.one .str) (.one (.int .u64)))
 |14=>some (.cons (.one .str) (.one (.int .u64)))
 |15=>some (.ref)
 |16=>some (.ref)
 |17=>some (.ref)
 |18=>some (.ref)
 |19=>some (.ref)
 |20=>some (.one .any)
 |21=>some (.one (.int .i32))
 |22=>some (.row .byte)
 |23=>some (.cons (.row .byte) (.row .byte))
 |24=>some (.cons (.row .byte) (.row .byte))
 |25=>some (.cons (.one (.int .i64)) (.cons (.one (.int .i64)) (.cons (.one (.int .i64)) (.cons (.one (.int .i64)) (.cons (.one (.int .i64)) (.one (.int .i64)))))))
 |26=>some (.cons (.one (.int .i64)) (.cons (.one (.int .i64)) (.cons (.one (.int .i64)) (.cons (.one (.int .i64)) (.cons (.one (.int .i64)) (.one (.int .i64)))))))
 |27=>some (.row (.cons (.one (.int .i64)) (.cons (.one (.int .i64)) (.cons (.one (.int .i64)) (.cons (.one (.int .i64)) (.cons (.one (.int .i64)) (.cons (.one (.int .i64)) (.cons (.one (.int .i64)) (.cons (.row .byte) (.cons (.row .byte) (.cons (.row .byte) (.cons (.row .byte) (.one (.int .i64))))))))))))))
 |28=>some (.one .any)
 |29=>some (.ref)
 |30=>some (.one .any)
 |31=>some (.one .any)
 |33=>some (.one .any)
 |34=>some (.row (.cons (.cons (.one (.int .i64)) (.cons (.one (.int .i64)) (.cons (.one (.int .i64)) (.cons (.row .byte) (.cons (.row .byte) (.cons (.row .byte) (.cons (.row .byte) (.one (.int .i64))))))))) (.cons (.one (.int .i64)) (.cons (.one .bool) (.cons (.row .byte) (.cons (.row (.cons (.row .byte) (.row .byte))) (.one (.int .u64))))))))
 |35=>some (.row (.one (.int .i64)))
 |36=>some (.cons (.one (.int .i64)) (.cons (.one (.int .i64)) (.cons (.one (.int .i64)) (.cons (.row .byte) (.cons (.row .byte) (.cons (.row .byte) (.cons (.row .byte) (.one (.int .i64)))))))))
 |37=>some (.cons (.one (.int .i64)) (.cons (.one (.int .i64)) (.cons (.one (.int .i64)) (.cons (.row .byte) (.cons (.row .byte) (.cons (.row .byte) (.cons (.row .byte) (.one (.int .i64)))))))))
 |38=>some (.cons (.one (.int .i64)) (.cons (.one (.int .i64)) (.cons (.one (.int .i64)) (.cons (.one (.int .i64)) (.cons (.one (.int .i64)) (.cons (.one (.int .i64)) (.cons (.one (.int .i64)) (.cons (.row .byte) (.cons (.row .byte) (.cons (.row .byte) (.cons (.row .byte) (.one (.int .i64)))))))))))))
 |39=>some (.cons (.one (.int .i64)) (.cons (.one (.int .i64)) (.cons (.one (.int .i64)) (.cons (.one (.int .i64)) (.cons (.one (.int .i64)) (.cons (.one (.int .i64)) (.cons (.one (.int .i64)) (.cons (.row .byte) (.cons (.row .byte) (.cons (.row .byte) (.cons (.row .byte) (.one (.int .i64)))))))))))))
 |40=>some (.one .any)
 |41=>some (.one .any)
 |43=>some (.one .any)
 |44=>some (.row (.cons (.row .byte) (.row .byte)))
 |45=>some (.one (.int .u64))
 |46=>some (.cons (.one (.int .i64)) (.cons (.one .bool) (.cons (.row .byte) (.cons (.row (.cons (.row .byte) (.row .byte))) (.one (.int .u64))))))
 |47=>some (.cons (.one (.int .i64)) (.cons (.one .bool) (.cons (.row .byte) (.cons (.row (.cons (.row .byte) (.row .byte))) (.one (.int .u64))))))
 |48=>some (.cons (.cons (.one (.int .i64)) (.cons (.one (.int .i64)) (.cons (.one (.int .i64)) (.cons (.row .byte) (.cons (.row .byte) (.cons (.row .byte) (.cons (.row .byte) (.one (.int .i64))))))))) (.cons (.one (.int .i64)) (.cons (.one .bool) (.cons (.row .byte) (.cons (.row (.cons (.row .byte) (.row .byte))) (.one (.int .u64)))))))
 |49=>some (.cons (.cons (.one (.int .i64)) (.cons (.one (.int .i64)) (.cons (.one (.int .i64)) (.cons (.row .byte) (.cons (.row .byte) (.cons (.row .byte) (.cons (.row .byte) (.one (.int .i64))))))))) (.cons (.one (.int .i64)) (.cons (.one .bool) (.cons (.row .byte) (.cons (.row (.cons (.row .byte) (.row .byte))) (.one (.int .u64)))))))
 |51=>some (.one .any)
 |52=>some (.one .any)
 |53=>some (.one .any)
 |54=>some (.one .any)
 |55=>some (.cons (.row .byte) (.row .byte))
 |56=>some (.cons (.row .byte) (.row .byte))
 |58=>some (.one .any)
 |59=>some (.one .any)
 |60=>some (.one .any)
 |61=>some (.one .any)
 |62=>some (.one (.int .i64))
 |63=>some (.one .any)
 |64=>some (.ref)
 |66=>some (.one .any)
 |67=>some (.ref)
 |69=>some (.one .any)
 |70=>some (.ref)
 |72=>some (.one .any)
 |73=>some (.one .any)
 |74=>some (.ref)
 |75=>some (.one .any)
 |76=>some (.cons (.one (.int .i64)) (.cons (.cons (.row .byte) (.row .byte)) (.cons (.cons (.one (.int .i64)) (.cons (.one (.int .i64)) (.cons (.one (.int .i64)) (.cons (.one (.int .i64)) (.cons (.one (.int .i64)) (.one (.int .i64))))))) (.cons .ref (.cons .ref (.cons .ref (.cons .ref (.cons (.one (.int .i64)) (.one (.int .u64))))))))))
 |77=>some (.cons (.one (.int .i64)) (.cons (.cons (.row .byte) (.row .byte)) (.cons (.cons (.one (.int .i64)) (.cons (.one (.int .i64)) (.cons (.one (.int .i64)) (.cons (.one (.int .i64)) (.cons (.one (.int .i64)) (.one (.int .i64))))))) (.cons .ref (.cons .ref (.cons .ref (.cons .ref (.cons (.one (.int .i64)) (.one (.int .u64))))))))))
 |79=>some (.one .any)
 |80=>some (.one .any)
 |81=>some (.one .any)
 |82=>some (.one .any)
 |83=>some (.one .any)
 |84=>some (.one .any)
 |85=>some (.ref)
 |86=>some (.one .any)
 |87=>some (.one .any)
 |88=>some (.row (.row .byte))
 |89=>some (.cons (.one .bool) (.cons (.row (.cons (.row .byte) (.row .byte))) (.cons (.row (.row .byte)) (.cons (.row (.one (.int .i64))) (.one (.int .i64))))))
 |90=>some (.cons (.one .bool) (.cons (.row (.cons (.row .byte) (.row .byte))) (.cons (.row (.row .byte)) (.cons (.row (.one (.int .i64))) (.one (.int .i64))))))
 |91=>some (.cons .ref (.cons (.one (.int .i64)) (.cons (.one (.int .i64)) (.one (.int .i64)))))
 |92=>some (.cons .ref (.cons (.one (.int .i64)) (.cons (.one (.int .i64)) (.one (.int .i64)))))
 |93=>some (.row (.cons (.one (.int .i64)) (.cons (.cons (.one (.int .i64)) (.cons (.one (.int .i64)) (.cons (.one (.int .i64)) (.cons (.row .byte) (.cons (.row .byte) (.cons (.row .byte) (.cons (.row .byte) (.one (.int .i64))))))))) (.cons (.one (.int .i64)) (.cons (.one .bool) (.cons (.row .byte) (.cons (.row (.cons (.row .byte) (.row .byte))) (.one (.int .u64)))))))))
 |94=>some (.row (.cons (.one (.int .i64)) (.cons (.cons (.one (.int .i64)) (.cons (.one (.int .i64)) (.cons (.one (.int .i64)) (.cons (.row .byte) (.cons (.row .byte) (.cons (.row .byte) (.cons (.row .byte) (.one (.int .i64))))))))) (.cons (.one (.int .i64)) (.cons (.one .bool) (.cons (.row .byte) (.cons (.row (.cons (.row .byte) (.row .byte))) (.one (.int .u64)))))))))
 |95=>some (.row (.cons (.one (.int .i64)) (.cons (.cons (.one (.int .i64)) (.cons (.one (.int .i64)) (.cons (.one (.int .i64)) (.cons (.row .byte) (.cons (.row .byte) (.cons (.row .byte) (.cons (.row .byte) (.one (.int .i64))))))))) (.cons (.one (.int .i64)) (.cons (.one .bool) (.cons (.row .byte) (.cons (.row (.cons (.row .byte) (.row .byte))) (.one (.int .u64)))))))))
 |96=>some (.cons (.one (.int .i64)) (.cons (.one (.int .u64)) (.cons (.one (.int .i64)) (.one (.int .i64)))))
 |97=>some (.cons (.one (.int .i64)) (.cons (.one (.int .u64)) (.cons (.one (.int .i64)) (.one (.int .i64)))))
 |98=>some (.one .any)
 |99=>some (.row (.cons (.one (.int .i64)) (.cons (.cons (.one (.int .i64)) (.cons (.one (.int .i64)) (.cons (.one (.int .i64)) (.cons (.row .byte) (.cons (.row .byte) (.cons (.row .byte) (.cons (.row .byte) (.one (.int .i64))))))))) (.cons (.one (.int .i64)) (.cons (.one .bool) (.cons (.row .byte) (.cons (.row (.cons (.row .byte) (.row .byte))) (.one (.int .u64)))))))))
 |100=>some (.cons (.row (.cons (.one (.int .i64)) (.cons (.cons (.one (.int .i64)) (.cons (.one (.int .i64)) (.cons (.one (.int .i64)) (.cons (.row .byte) (.cons (.row .byte) (.cons (.row .byte) (.cons (.row .byte) (.one (.int .i64))))))))) (.cons (.one (.int .i64)) (.cons (.one .bool) (.cons (.row .byte) (.cons (.row (.cons (.row .byte) (.row .byte))) (.one (.int .u64))))))))) (.cons (.row (.one (.int .i64))) (.cons (.one (.int .i64)) (.one (.int .i64)))))
 |101=>some (.cons (.row (.cons (.one (.int .i64)) (.cons (.cons (.one (.int .i64)) (.cons (.one (.int .i64)) (.cons (.one (.int .i64)) (.cons (.row .byte) (.cons (.row .byte) (.cons (.row .byte) (.cons (.row .byte) (.one (.int .i64))))))))) (.cons (.one (.int .i64)) (.cons (.one .bool) (.cons (.row .byte) (.cons (.row (.cons (.row .byte) (.row .byte))) (.one (.int .u64))))))))) (.cons (.row (.one (.int .i64))) (.cons (.one (.int .i64)) (.one (.int .i64)))))
 |102=>some (.one .any)
 |104=>some (.one .any)
 |105=>some (.cons (.one (.int .i64)) (.cons (.cons (.one (.int .i64)) (.cons (.one (.int .i64)) (.cons (.one (.int .i64)) (.cons (.row .byte) (.cons (.row .byte) (.cons (.row .byte) (.cons (.row .byte) (.one (.int .i64))))))))) (.cons (.one (.int .i64)) (.cons (.one .bool) (.cons (.row .byte) (.cons (.row (.cons (.row .byte) (.row .byte))) (.one (.int .u64))))))))
 |106=>some (.cons (.one (.int .i64)) (.cons (.cons (.one (.int .i64)) (.cons (.one (.int .i64)) (.cons (.one (.int .i64)) (.cons (.row .byte) (.cons (.row .byte) (.cons (.row .byte) (.cons (.row .byte) (.one (.int .i64))))))))) (.cons (.one (.int .i64)) (.cons (.one .bool) (.cons (.row .byte) (.cons (.row (.cons (.row .byte) (.row .byte))) (.one (.int .u64))))))))
 |107=>some (.one .any)
 |108=>some (.one .any)
 |109=>some (.one .any)
 |110=>some (.one .any)
 |111=>some (.one .any)
 |113=>some (.one .any)
 |114=>some (.row (.cons (.one (.int .i64)) (.cons (.one (.int .i64)) (.cons (.one (.int .i64)) (.cons (.row .byte) (.cons (.row .byte) (.cons (.row .byte) (.cons (.row .byte) (.one (.int .i64))))))))))
 |115=>some (.one .any)
 |117=>some (.one .any)
 |119=>some (.one .any)
 |120=>some (.one .any)
 |122=>some (.one .any)
 |123=>some (.one .any)
 |124=>some (.one .any)
 |125=>some (.one .any)
 |127=>some (.one .any)
 |128=>some (.ref)
 |129=>some (.one .any)
 |130=>some (.row (.cons (.one .bool) (.cons (.row (.cons (.row .byte) (.row .byte))) (.cons (.row (.row .byte)) (.cons (.row (.one (.int .i64))) (.one (.int .i64)))))))
 |131=>some (.row (.one .bool))
 |132=>some (.cons (.row (.cons (.one .bool) (.cons (.row (.cons (.row .byte) (.row .byte))) (.cons (.row (.row .byte)) (.cons (.row (.one (.int .i64))) (.one (.int .i64))))))) (.cons (.row (.one .bool)) (.row (.one (.int .i64)))))
 |133=>some (.cons (.row (.cons (.one .bool) (.cons (.row (.cons (.row .byte) (.row .byte))) (.cons (.row (.row .byte)) (.cons (.row (.one (.int .i64))) (.one (.int .i64))))))) (.cons (.row (.one .bool)) (.row (.one (.int .i64)))))
 |134=>some (.one .any)
 |135=>some (.one .any)
 |136=>some (.one .any)
 |137=>some (.one .any)
 |138=>some (.cons (.one (.int .i64)) (.cons (.cons (.one (.int .i64)) (.cons (.one (.int .i64)) (.cons (.one (.int .i64)) (.cons (.row .byte) (.cons (.row .byte) (.cons (.row .byte) (.cons (.row .byte) (.one (.int .i64))))))))) (.cons (.one (.int .i64)) (.cons (.one .bool) (.cons (.row .byte) (.cons (.row (.cons (.row .byte) (.row .byte))) (.one (.int .u64))))))))
 |139=>some (.cons (.one (.int .i64)) (.cons (.cons (.one (.int .i64)) (.cons (.one (.int .i64)) (.cons (.one (.int .i64)) (.cons (.row .byte) (.cons (.row .byte) (.cons (.row .byte) (.cons (.row .byte) (.one (.int .i64))))))))) (.cons (.one (.int .i64)) (.cons (.one .bool) (.cons (.row .byte) (.cons (.row (.cons (.row .byte) (.row .byte))) (.one (.int .u64))))))))
 |140=>some (.row (.cons (.one (.int .i64)) (.cons (.one .bool) (.cons (.row .byte) (.cons (.row (.cons (.row .byte) (.row .byte))) (.one (.int .u64)))))))
 |142=>some (.one .any)
 |143=>some (.one .any)
 |144=>some (.one .any)
 |145=>some (.one .any)
 |146=>some (.one .any)
 |148=>some (.one .any)
 |149=>some (.one .any)
 |150=>some (.one .any)
 |151=>some (.row (.row (.one (.int .i64))))
 |152=>some (.one .any)
 |153=>some (.one .any)
 |154=>some (.one .any)
 |155=>some (.one .any)
 |156=>some (.one .any)
 |157=>some (.one .any)
 |159=>some (.one .any)
 |160=>some (.cons (.row (.cons (.one (.int .i64)) (.cons (.one .bool) (.cons (.row .byte) (.cons (.row (.cons (.row .byte) (.row .byte))) (.one (.int .u64))))))) (.cons (.one .bool) (.cons (.row .byte) (.one .bool))))
 |161=>some (.cons (.row (.cons (.one (.int .i64)) (.cons (.one .bool) (.cons (.row .byte) (.cons (.row (.cons (.row .byte) (.row .byte))) (.one (.int .u64))))))) (.cons (.one .bool) (.cons (.row .byte) (.one .bool))))
 |163=>some (.one .any)
 |164=>some (.one .any)
 |165=>some (.one .any)
 |166=>some (.one .any)
 |167=>some (.one .any)
 |168=>some (.one .any)
 |170=>some (.one .any)
 |171=>some (.one .any)
 |172=>some (.one .any)
 |174=>some (.one .any)
 |176=>some (.one .any)
 |177=>some (.one .any)
 |178=>some (.one .any)
 |179=>some (.one .any)
 |180=>some (.one .any)
 |181=>some (.one .any)
 |182=>some (.ref)
 |184=>some (.one .any)
 |186=>some (.one .any)
 |187=>some (.one .any)
 |188=>some (.one .any)
 |189=>some (.ref)
 |190=>some (.one .any)
 |191=>some (.cons (.row (.cons (.row .byte) (.row .byte))) (.one (.int .i64)))
 |192=>some (.cons (.row (.cons (.row .byte) (.row .byte))) (.one (.int .i64)))
 |193=>some (.one .any)
 |195=>some (.one .any)
 |196=>some (.one .any)
 |197=>some (.one .any)
 |198=>some (.row (.cons (.one (.int .i64)) (.one (.int .i64))))
 |199=>some (.one .any)
 |200=>some (.cons (.one (.int .i64)) (.one (.int .i64)))
 |201=>some (.cons (.one (.int .i64)) (.one (.int .i64)))
 |203=>some (.one .any)
 |204=>some (.one .any)
 |205=>some (.one .any)
 |206=>some (.one .any)
 |207=>some (.one .any)
 |208=>some (.one (.int .u64))
 |209=>some (.cons .ref (.cons (.cons (.row .byte) (.row .byte)) (.cons (.row (.cons (.row .byte) (.row .byte))) (.one (.int .i64)))))
 |210=>some (.cons .ref (.cons (.cons (.row .byte) (.row .byte)) (.cons (.row (.cons (.row .byte) (.row .byte))) (.one (.int .i64)))))
 |211=>some (.one .any)
 |212=>some (.one .any)
 |213=>some (.one .any)
 |214=>some (.one .any)
 |215=>some (.one .any)
 |217=>some (.one .any)
 |218=>some (.one .any)
 |219=>some (.one .any)
 |220=>some (.one .any)
 |221=>some (.ref)
 |222=>some (.one .any)
 |223=>some (.cons .ref (.cons (.cons (.one .bool) (.cons (.row (.cons (.row .byte) (.row .byte))) (.cons (.row (.row .byte)) (.cons (.row (.one (.int .i64))) (.one (.int .i64)))))) (.cons (.cons (.one .bool) (.cons (.row (.cons (.row .byte) (.row .byte))) (.cons (.row (.row .byte)) (.cons (.row (.one (.int .i64))) (.one (.int .i64)))))) (.cons (.cons (.one .bool) (.cons (.row (.cons (.row .byte) (.row .byte))) (.cons (.row (.row .byte)) (.cons (.row (.one (.int .i64))) (.one (.int .i64)))))) (.cons (.one (.int .i64)) (.cons (.one (.int .i64)) (.cons (.one (.int .i64)) (.one (.int .i64)))))))))
 |224=>some (.cons .ref (.cons (.cons (.one .bool) (.cons (.row (.cons (.row .byte) (.row .byte))) (.cons (.row (.row .byte)) (.cons (.row (.one (.int .i64))) (.one (.int .i64)))))) (.cons (.cons (.one .bool) (.cons (.row (.cons (.row .byte) (.row .byte))) (.cons (.row (.row .byte)) (.cons (.row (.one (.int .i64))) (.one (.int .i64)))))) (.cons (.cons (.one .bool) (.cons (.row (.cons (.row .byte) (.row .byte))) (.cons (.row (.row .byte)) (.cons (.row (.one (.int .i64))) (.one (.int .i64)))))) (.cons (.one (.int .i64)) (.cons (.one (.int .i64)) (.cons (.one (.int .i64)) (.one (.int .i64)))))))))
 |225=>some (.one .any)
 |226=>some (.one .any)
 |227=>some (.one .any)
 |228=>some (.one .any)
 |229=>some (.one .any)
 |230=>some (.one .any)
 |231=>some (.one .any)
 |232=>some (.one .any)
 |233=>some (.one .any)
 |234=>some (.one .any)
 |235=>some (.one .any)
 |236=>some (.one .any)
 |237=>some (.cons .ref (.cons .ref (.cons .ref (.one .str))))
 |238=>some (.cons .ref (.cons .ref (.cons .ref (.one .str))))
 |240=>some (.nil)
 |241=>some (.nil)
 |242=>some (.one (.int .u32))
 |243=>some (.byte)
 |244=>some (.byte)
 |245=>some (.one .any)
 |246=>some (.ref)
 |247=>some (.one (.int .i32))
 |248=>some (.one (.int .i32))
 |249=>some (.cons (.one (.int .u64)) (.cons (.one (.int .u64)) (.cons (.one (.int .u32)) (.cons (.one (.int .u8)) (.cons (.one (.int .u8)) (.cons (.one (.int .u8)) (.cons (.one (.int .u8)) (.cons (.one .any) (.cons .ref (.cons (.one (.int .i32)) (.one (.int .i32))))))))))))
 |250=>some (.cons (.one (.int .u64)) (.cons (.one (.int .u64)) (.cons (.one (.int .u32)) (.cons (.one (.int .u8)) (.cons (.one (.int .u8)) (.cons (.one (.int .u8)) (.cons (.one (.int .u8)) (.cons (.one .any) (.cons .ref (.cons (.one (.int .i32)) (.one (.int .i32))))))))))))
 |251=>some (.one .any)
 |_=>none
def iV:TypeId→Option AK
 |93=>some (.one .sl)
 |94=>some (.one .sl)
 |95=>some (.one .sl)
 |128=>some (.one .ptr)
 |n=>ch n
def Fk:TypeId→Option AK
 |35=>some (.one .sl)
 |89=>some (.cons (.one .bool) (.cons (.row (.cons (.row .byte) (.row .byte))) (.cons (.row (.row .byte)) (.cons (.one .sl) (.one (.int .i64))))))
 |90=>some (.cons (.one .bool) (.cons (.row (.cons (.row .byte) (.row .byte))) (.cons (.row (.row .byte)) (.cons (.one .sl) (.one (.int .i64))))))
 |93=>some (.one .sl)
 |94=>some (.one .sl)
 |95=>some (.one .sl)
 |100=>some (.cons (.row (.cons (.one (.int .i64)) (.cons (.cons (.one (.int .i64)) (.cons (.one (.int .i64)) (.cons (.one (.int .i64)) (.cons (.row .byte) (.cons (.row .byte) (.cons (.row .byte) (.cons (.row .byte) (.one (.int .i64))))))))) (.cons (.one (.int .i64)) (.cons (.one .bool) (.cons (.row .byte) (.cons (.row (.cons (.row .byte) (.row .byte))) (.one (.int .u64))))))))) (.cons (.one .sl) (.cons (.one (.int .i64)) (.one (.int .i64)))))
 |101=>some (.cons (.row (.cons (.one (.int .i64)) (.cons (.cons (.one (.int .i64)) (.cons (.one (.int .i64)) (.cons (.one (.int .i64)) (.cons (.row .byte) (.cons (.row .byte) (.cons (.row .byte) (.cons (.row .byte) (.one (.int .i64))))))))) (.cons (.one (.int .i64)) (.cons (.one .bool) (.cons (.row .byte) (.cons (.row (.cons (.row .byte) (.row .byte))) (.one (.int .u64))))))))) (.cons (.one .sl) (.cons (.one (.int .i64)) (.one (.int .i64)))))
 |128=>some (.one .ptr)
 |130=>some (.row (.cons (.one .bool) (.cons (.row (.cons (.row .byte) (.row .byte))) (.cons (.row (.row .byte)) (.cons (.one .sl) (.one (.int .i64)))))))
 |132=>some (.cons (.row (.cons (.one .bool) (.cons (.row (.cons (.row .byte) (.row .byte))) (.cons (.row (.row .byte)) (.cons (.one .sl) (.one (.int .i64))))))) (.cons (.row (.one .bool)) (.one .sl)))
 |133=>some (.cons (.row (.cons (.one .bool) (.cons (.row (.cons (.row .byte) (.row .byte))) (.cons (.row (.row .byte)) (.cons (.one .sl) (.one (.int .i64))))))) (.cons (.row (.one .bool)) (.one .sl)))
 |151=>some (.row (.one .sl))
 |223=>some (.cons .ref (.cons (.cons (.one .bool) (.cons (.row (.cons (.row .byte) (.row .byte))) (.cons (.row (.row .byte)) (.cons (.one .sl) (.one (.int .i64)))))) (.cons (.cons (.one .bool) (.cons (.row (.cons (.row .byte) (.row .byte))) (.cons (.row (.row .byte)) (.cons (.one .sl) (.one (.int .i64)))))) (.cons (.cons (.one .bool) (.cons (.row (.cons (.row .byte) (.row .byte))) (.cons (.row (.row .byte)) (.cons (.one .sl) (.one (.int .i64)))))) (.cons (.one (.int .i64)) (.cons (.one (.int .i64)) (.cons (.one (.int .i64)) (.one (.int .i64)))))))))
 |224=>some (.cons .ref (.cons (.cons (.one .bool) (.cons (.row (.cons (.row .byte) (.row .byte))) (.cons (.row (.row .byte)) (.cons (.one .sl) (.one (.int .i64)))))) (.cons (.cons (.one .bool) (.cons (.row (.cons (.row .byte) (.row .byte))) (.cons (.row (.row .byte)) (.cons (.one .sl) (.one (.int .i64)))))) (.cons (.cons (.one .bool) (.cons (.row (.cons (.row .byte) (.row .byte))) (.cons (.row (.row .byte)) (.cons (.one .sl) (.one (.int .i64)))))) (.cons (.one (.int .i64)) (.cons (.one (.int .i64)) (.cons (.one (.int .i64)) (.one (.int .i64)))))))))
 |n=>ch n
def eD:TypeId→Option AK
 |93=>some (.one .sl)
 |94=>some (.one .sl)
 |95=>some (.one .sl)
 |99=>some (.one .sl)
 |100=>some (.cons (.one .sl) (.cons (.row (.one (.int .i64))) (.cons (.one (.int .i64)) (.one (.int .i64)))))
 |101=>some (.cons (.one .sl) (.cons (.row (.one (.int .i64))) (.cons (.one (.int .i64)) (.one (.int .i64)))))
 |128=>some (.one .ptr)
 |n=>ch n
abbrev kR:AK:=(.cons (.own (.cons (.one .bool) (.cons (.row (.cons (.row .byte) (.row .byte))) (.cons (.row (.row .byte)) (.cons (.row (.one (.int .i64))) (.one (.int .i64)))))) 90) (.cons (.own (.one .bool) 4) (.own (.one (.int .i64)) 3)))
abbrev kCF:AK:=(.cons (.one (.int .i64)) (.cons (.one (.int .i64)) (.cons (.one (.int .i64)) (.cons (.one (.int .i64)) (.cons (.one (.int .i64)) (.one (.int .i64)))))))
abbrev y_:AK:=(.cons .ref (.cons (.row .byte) (.cons (.row .byte) (.cons (.row (.cons (.row .byte) (.row .byte))) (.one (.int .i64))))))
abbrev FZ:AK:=(.cons (.one (.int .i64)) (.cons (.cons (.one (.int .i64)) (.cons (.one (.int .i64)) (.cons (.one (.int .i64)) (.cons (.row .byte) (.cons (.row .byte) (.cons (.row .byte) (.cons (.row .byte) (.one (.int .i64))))))))) (.cons (.one (.int .i64)) (.cons (.one .bool) (.cons (.row .byte) (.cons (.row (.cons (.row .byte) (.row .byte))) (.one (.int .u64))))))))
abbrev iP:AK:=(.cons (.one .sl) (.cons (.one .sl) (.cons (.one (.int .i64)) (.one (.int .i64)))))
abbrev j4:AK:=(.cons (.one (.int .i64)) (.cons (.one (.int .u64)) (.cons (.one (.int .i64)) (.one (.int .i64)))))
abbrev kNB:AK:=(.cons (.one .bool) (.cons (.bQ (.cons (.row .byte) (.row .byte))) (.cons (.bQ (.row .byte)) (.cons (.bQ (.one (.int .i64))) (.one (.int .i64))))))
abbrev Lo:AK:=(.cons (.one .bool) (.cons (.row (.cons (.row .byte) (.row .byte))) (.cons (.row (.row .byte)) (.cons (.row (.one (.int .i64))) (.one (.int .i64))))))
abbrev kNO:AK:=(.cons (.one .bool) (.cons (.own (.cons (.row .byte) (.row .byte)) 56) (.cons (.own (.row .byte) 22) (.cons (.own (.one (.int .i64)) 3) (.one (.int .i64))))))
abbrev aj:AK:=(.cons (.row .byte) (.row .byte))
abbrev ik:AK:=(.cons (.one (.int .i64)) (.cons (.cons (.row .byte) (.row .byte)) (.cons (.cons (.one (.int .i64)) (.cons (.one (.int .i64)) (.cons (.one (.int .i64)) (.cons (.one (.int .i64)) (.cons (.one (.int .i64)) (.one (.int .i64))))))) (.cons .ref (.cons .ref (.cons .ref (.cons .ref (.cons (.one (.int .i64)) (.one (.int .u64))))))))))
abbrev aM:AK:=(.cons (.one (.int .i64)) (.cons (.one (.int .i64)) (.cons (.one (.int .i64)) (.cons (.row .byte) (.cons (.row .byte) (.cons (.row .byte) (.cons (.row .byte) (.one (.int .i64)))))))))
abbrev dH:AK:=(.cons (.one (.int .i64)) (.cons (.one .bool) (.cons (.row .byte) (.cons (.row (.cons (.row .byte) (.row .byte))) (.one (.int .u64))))))
abbrev k_:AK:=(.cons (.row (.cons (.row .byte) (.row .byte))) (.one (.int .i64)))
abbrev MV:AK:=(.cons .ref (.cons (.cons (.one .bool) (.cons (.own (.cons (.row .byte) (.row .byte)) 56) (.cons (.own (.row .byte) 22) (.cons (.own (.one (.int .i64)) 3) (.one (.int .i64)))))) (.cons (.cons (.one .bool) (.cons (.own (.cons (.row .byte) (.row .byte)) 56) (.cons (.own (.row .byte) 22) (.cons (.own (.one (.int .i64)) 3) (.one (.int .i64)))))) (.cons (.cons (.one .bool) (.cons (.own (.cons (.row .byte) (.row .byte)) 56) (.cons (.own (.row .byte) 22) (.cons (.own (.one (.int .i64)) 3) (.one (.int .i64)))))) (.cons (.one (.int .i64)) (.cons (.one (.int .i64)) (.cons (.one (.int .i64)) (.one (.int .i64)))))))))
abbrev rj:AK:=(.cons .ref (.cons (.cons (.one .bool) (.cons (.row (.cons (.row .byte) (.row .byte))) (.cons (.row (.row .byte)) (.cons (.row (.one (.int .i64))) (.one (.int .i64)))))) (.cons (.cons (.one .bool) (.cons (.row (.cons (.row .byte) (.row .byte))) (.cons (.row (.row .byte)) (.cons (.row (.one (.int .i64))) (.one (.int .i64)))))) (.cons (.cons (.one .bool) (.cons (.row (.cons (.row .byte) (.row .byte))) (.cons (.row (.row .byte)) (.cons (.row (.one (.int .i64))) (.one (.int .i64)))))) (.cons (.one (.int .i64)) (.cons (.one (.int .i64)) (.cons (.one (.int .i64)) (.one (.int .i64)))))))))
abbrev kTP:AK:=(.cons .ref (.cons (.cons (.one .bool) (.cons (.own (.cons (.row .byte) (.row .byte)) 56) (.cons (.own (.row .byte) 22) (.cons (.own (.one (.int .i64)) 3) (.one (.int .i64)))))) (.cons (.cons (.one .bool) (.cons (.own (.cons (.row .byte) (.row .byte)) 56) (.cons (.own (.row .byte) 22) (.cons (.own (.one (.int .i64)) 3) (.one (.int .i64)))))) (.cons (.cons (.one .bool) (.cons (.row (.cons (.row .byte) (.row .byte))) (.cons (.row (.row .byte)) (.cons (.row (.one (.int .i64))) (.one (.int .i64)))))) (.cons (.one (.int .i64)) (.cons (.one (.int .i64)) (.cons (.one (.int .i64)) (.one (.int .i64)))))))))
abbrev kTQ:AK:=(.cons .ref (.cons (.cons (.one .bool) (.cons (.own (.cons (.row .byte) (.row .byte)) 56) (.cons (.own (.row .byte) 22) (.cons (.own (.one (.int .i64)) 3) (.one (.int .i64)))))) (.cons (.cons (.one .bool) (.cons (.row (.cons (.row .byte) (.row .byte))) (.cons (.row (.row .byte)) (.cons (.row (.one (.int .i64))) (.one (.int .i64)))))) (.cons (.cons (.one .bool) (.cons (.own (.cons (.row .byte) (.row .byte)) 56) (.cons (.own (.row .byte) 22) (.cons (.own (.one (.int .i64)) 3) (.one (.int .i64)))))) (.cons (.one (.int .i64)) (.cons (.one (.int .i64)) (.cons (.one (.int .i64)) (.one (.int .i64)))))))))
abbrev eo:AK:=(.cons .ref (.cons (.one (.int .i64)) (.cons (.one (.int .i64)) (.one (.int .i64)))))
abbrev ZC:Type:=(List (Bool×(List (List UInt8×List UInt8))×List (List UInt8)×List Int×Int))×List Bool×List Int
abbrev tCF:Type:=Int×Int×Int×Int×Int×Int
abbrev MW:Type:=Option Nat×List UInt8×List UInt8×(List (List UInt8×List UInt8))×Int
abbrev QV:Type:=Int×(Int×Int×Int×List UInt8×List UInt8×List UInt8×List UInt8×Int)×Int×Bool×List UInt8×(List (List UInt8×List UInt8))×Int
abbrev tI:Type:=Sl×Sl×Int×Int
abbrev tJ:Type:=Int×Int×Int×Int
abbrev pz:Type:=Bool×(List (List UInt8×List UInt8))×List (List UInt8)×List Int×Int
abbrev aq:Type:=List UInt8×List UInt8
abbrev ky:Type:=Int×(List UInt8×List UInt8)×(Int×Int×Int×Int×Int×Int)×Option Nat×Option Nat×Option Nat×Option Nat×Int×Int
abbrev aO:Type:=Int×Int×Int×List UInt8×List UInt8×List UInt8×List UInt8×Int
abbrev kz:Type:=Int×Bool×List UInt8×(List (List UInt8×List UInt8))×Int
abbrev F0:Type:=(List (List UInt8×List UInt8))×Int
abbrev uO:Type:=Option Nat×(Bool×(List (List UInt8×List UInt8))×List (List UInt8)×List Int×Int)×(Bool×(List (List UInt8×List UInt8))×List (List UInt8)×List Int×Int)×(Bool×(List (List UInt8×List UInt8))×List (List UInt8)×List Int×Int)×Int×Int×Int×Int
abbrev gu:Type:=Option Nat×Int×Int×Int
abbrev T10:Type:=(Bool×Unit)
abbrev arV:Type:=(Int×Unit)
abbrev arW:Type:=(Unit)
abbrev UF:Type:=(Int×Unit)
abbrev arX:Type:=(Int×Unit)
abbrev ahY:Type:=(Int×Bool×Unit)
abbrev arY:Type:=(Option Nat×Value×Unit)
abbrev arZ:Type:=(aq×Bool×Unit)
abbrev asa:Type:=(Int×Bool×Unit)
abbrev ahZ:Type:=(Int×Unit)
abbrev asb:Type:=((List aq)×Unit)
abbrev T11:Type:=((List aq)×Unit)
abbrev asc:Type:=(kz×Unit)
abbrev abd:Type:=((List aq)×Bool×Value×Unit)
abbrev Fl:Type:=(Unit)
abbrev aia:Type:=(Unit)
abbrev asd:Type:=((List (Int×Int))×Unit)
abbrev aib:Type:=((List aq)×Bool×Unit)
abbrev Fo:Type:=(Unit)
abbrev MX:Type:=(Value×Unit)
abbrev ase:Type:=(Unit)
abbrev T12:Type:=(Bool×Unit)
abbrev abe:Type:=(Value×Unit)
abbrev asf:Type:=(Unit)
abbrev Bk:Type:=(aq×Unit)
abbrev abf:Type:=(kz×Unit)
abbrev asg:Type:=(kz×Unit)
abbrev ash:Type:=((List aq)×Unit)
abbrev abg:Type:=(kz×Unit)
abbrev aid:Type:=((List aq)×Unit)
abbrev aie:Type:=((List aq)×Unit)
abbrev T13:Type:=(kz×Value×Unit)
abbrev abh:Type:=(List (List UInt8)×Unit)
abbrev abi:Type:=(List Int×Unit)
abbrev asi:Type:=((List aq)×Unit)
abbrev Fp:Type:=(Option Nat×Unit)
abbrev asj:Type:=(Unit)
abbrev aif:Type:=(Unit)
abbrev UG:Type:=(Unit)
abbrev aih:Type:=(Unit)
abbrev UH:Type:=(Unit)
abbrev T14:Type:=(Bool×Unit)
abbrev JH:Type:=(Unit)
abbrev aii:Type:=(List (List UInt8)×Unit)
abbrev aij:Type:=(List Int×Unit)
abbrev asl:Type:=(Unit)
abbrev T15:Type:=(tCF×Unit)
abbrev abj:Type:=(Unit)
abbrev VM:Type:=(Bool×Unit)
abbrev T17:Type:=(Option Nat×Value×Unit)
abbrev T18:Type:=(Option Nat×Value×Unit)
abbrev T19:Type:=(Option Nat×Value×Unit)
abbrev T20:Type:=(aq×Unit)
abbrev T21:Type:=(Option Nat×Unit)
abbrev T22:Type:=(Bool×Unit)
abbrev T23:Type:=(Bool×Unit)
abbrev T24:Type:=(Int×Value×Unit)
abbrev T25:Type:=(Int×Value×Unit)
abbrev T26:Type:=(Int×(List (aO×Int×Bool×List UInt8×(List aq)×Int))×Value×Unit)
abbrev T27:Type:=(Value×Unit)
abbrev T28:Type:=((List aq)×Unit)
abbrev T29:Type:=(Bool×Unit)
abbrev T30:Type:=(kz×Value×Unit)
abbrev T31:Type:=(Bool×Unit)
abbrev MY:Type:=(Int×Unit)
abbrev T33:Type:=(Option Nat×Unit)
abbrev ZD:Type:=(Int×Unit)
abbrev od:Type:=(List UInt8×Unit)
abbrev T36:Type:=(Bool×Unit)
abbrev T37:Type:=(Bool×Unit)
abbrev T38:Type:=(Bool×Unit)
abbrev T39:Type:=(aq×Bool×Unit)
abbrev T4:Type:=(Bool×Unit)
abbrev T41:Type:=(Int×Unit)
abbrev T42:Type:=(Bool×Unit)
abbrev T43:Type:=(aO×Unit)
abbrev T44:Type:=(Bool×Unit)
abbrev T45:Type:=(Int×Bool×Unit)
abbrev T46:Type:=((List aO)×Unit)
abbrev T47:Type:=((List (aO×Int×Bool×List UInt8×(List aq)×Int))×Value×Unit)
abbrev T48:Type:=(Int×kz×Bool×Unit)
abbrev T49:Type:=(Value×Unit)
abbrev T5:Type:=(Option Nat×Value×Unit)
abbrev T50:Type:=(List Int×(List aO)×Unit)
abbrev T51:Type:=(Bool×Unit)
abbrev T52:Type:=(Value×Unit)
abbrev T53:Type:=(Value×Unit)
abbrev T54:Type:=(Value×Unit)
abbrev T55:Type:=(Int×Unit)
abbrev VN:Type:=((Bool×(List aq)×List (List UInt8)×List Int×Int)×Bool×Unit)
abbrev T57:Type:=(Option Addr×Unit)
abbrev T58:Type:=(Int×Unit)
abbrev T59:Type:=((Bool×(List aq)×List (List UInt8)×List Int×Int)×Unit)
abbrev T6:Type:=(Bool×Unit)
abbrev T60:Type:=(aq×Bool×Unit)
abbrev T61:Type:=(Int×Unit)
abbrev T62:Type:=(Bool×Unit)
abbrev T63:Type:=(Sl×Unit)
abbrev T64:Type:=(aO×Unit)
abbrev T65:Type:=((List kz)×Value×Unit)
abbrev T66:Type:=(Value×Unit)
abbrev T67:Type:=(Int×Unit)
abbrev T68:Type:=(kz×Unit)
abbrev T69:Type:=(Value×Unit)
abbrev T7:Type:=(Int×Unit)
abbrev T70:Type:=(Value×Unit)
abbrev T71:Type:=(Int×Unit)
abbrev T72:Type:=(aO×Value×Unit)
abbrev T73:Type:=(Int×Unit)
abbrev T74:Type:=(Value×Unit)
abbrev T75:Type:=(Value×Unit)
abbrev T76:Type:=(Bool×Unit)
abbrev T77:Type:=(Bool×Unit)
abbrev T78:Type:=(List Sl×Unit)
abbrev T79:Type:=(List Int×Unit)
abbrev T8:Type:=(Int×Value×Unit)
abbrev T80:Type:=(Bool×Unit)
abbrev T82:Type:=(List Int×Unit)
abbrev T83:Type:=(aq×Unit)
abbrev T84:Type:=(kz×Value×Unit)
abbrev T85:Type:=(List UInt8×Bool×Unit)
abbrev T86:Type:=(((List kz)×Bool×List UInt8×Bool)×Value×Unit)
abbrev T87:Type:=(Value×Unit)
abbrev T88:Type:=(kz×Unit)
abbrev T89:Type:=(Bool×Unit)
abbrev T9:Type:=(Int×(List (aO×Int×Bool×List UInt8×(List aq)×Int))×Value×Unit)
abbrev T90:Type:=(Sl×Unit)
abbrev T91:Type:=(Int×Unit)
abbrev T92:Type:=(Bool×Unit)
abbrev T94:Type:=((List aq)×Value×Unit)
abbrev T95:Type:=(Int×Bool×Unit)
abbrev T96:Type:=(Bool×Unit)
abbrev T97:Type:=((List aq)×(List kz)×Unit)
abbrev T98:Type:=(Bool×Value×Unit)
abbrev T99:Type:=(Bool×Value×Unit)
abbrev P3:List (Bool×AK):=[(true,aj),(true,kCF),(false,.row (.cons (.one (.int .i64)) (.cons (.one (.int .i64)) (.cons (.one (.int .i64)) (.cons (.one (.int .i64)) aM)))))]
abbrev R3:List (Bool×AK):=[(false,.one .bool)]
abbrev C3 (a0:aq) (a1:tCF) (a2:List (Int×Int×Int×Int×Int×Int×Int×List UInt8×List UInt8×List UInt8×List UInt8×Int)) (H:HP) (K:HT R3→HP→Prop):Prop:=ae Tryz.prog 3 P3 (a0,a1,a2,()) R3 H K
abbrev P4:List (Bool×AK):=[]
abbrev R4:List (Bool×AK):=[(false,.one .bool)]
abbrev C4 (H:HP) (K:HT R4→HP→Prop):Prop:=ae Tryz.prog 4 P4 (()) R4 H K
abbrev P5:List (Bool×AK):=[(false,.one (.int .i64)),(true,aj),(true,kCF)]
abbrev R5:List (Bool×AK):=[(false,.ref),(false,.one .any)]
abbrev C5 (a0:Int) (a1:aq) (a2:tCF) (H:HP) (K:HT R5→HP→Prop):Prop:=ae Tryz.prog 5 P5 (a0,a1,a2,()) R5 H K
abbrev P6:List (Bool×AK):=[(true,aM)]
abbrev R6:List (Bool×AK):=[(false,.one .bool)]
abbrev C6 (a0:aO) (H:HP) (K:HT R6→HP→Prop):Prop:=ae Tryz.prog 6 P6 (a0,()) R6 H K
abbrev Q6 (a0:aO) (K:HT R6→Prop):Prop:=ck Tryz.prog 6 P6 (a0,()) R6 K
abbrev S6 (a0:aO) (r:HT R6):Prop:=bB Tryz.prog 6 P6 (a0,()) R6 r
abbrev P7:List (Bool×AK):=[(false,.one (.int .i64)),(false,.one (.int .i64))]
abbrev R7:List (Bool×AK):=[(false,.one (.int .i64))]
abbrev C7 (a0:Int) (a1:Int) (H:HP) (K:HT R7→HP→Prop):Prop:=ae Tryz.prog 7 P7 (a0,a1,()) R7 H K
abbrev Q7 (a0:Int) (a1:Int) (K:HT R7→Prop):Prop:=ck Tryz.prog 7 P7 (a0,a1,()) R7 K
abbrev S7 (a0:Int) (a1:Int) (r:HT R7):Prop:=bB Tryz.prog 7 P7 (a0,a1,()) R7 r
abbrev P8:List (Bool×AK):=[(false,.ref),(true,aM)]
abbrev R8:List (Bool×AK):=[(false,.one (.int .i64)),(false,.one .any)]
abbrev C8 (a0:Option Nat) (a1:aO) (H:HP) (K:HT R8→HP→Prop):Prop:=ae Tryz.prog 8 P8 (a0,a1,()) R8 H K
abbrev S8 (a0:Option Nat) (a1:aO) (r:HT R8):Prop:=bB Tryz.prog 8 P8 (a0,a1,()) R8 r
abbrev P9:List (Bool×AK):=[(false,.ref),(false,.one (.int .i64)),(false,.one (.int .i64))]
abbrev R9:List (Bool×AK):=[(false,.one (.int .i64)),(false,.row (.cons aM dH)),(false,.one .any)]
abbrev C9 (a0:Option Nat) (a1:Int) (a2:Int) (H:HP) (K:HT R9→HP→Prop):Prop:=ae Tryz.prog 9 P9 (a0,a1,a2,()) R9 H K
abbrev P10:List (Bool×AK):=[(true,aM),(true,aM)]
abbrev MZ:List (Bool×AK):=[(false,.one .bool)]
abbrev C10 (a0:aO) (a1:aO) (H:HP) (K:HT MZ→HP→Prop):Prop:=ae Tryz.prog 10 P10 (a0,a1,()) MZ H K
abbrev Q10 (a0:aO) (a1:aO) (K:HT MZ→Prop):Prop:=ck Tryz.prog 10 P10 (a0,a1,()) MZ K
abbrev S10 (a0:aO) (a1:aO) (r:HT MZ):Prop:=bB Tryz.prog 10 P10 (a0,a1,()) MZ r
abbrev P11:List (Bool×AK):=[(false,.ref)]
abbrev R11:List (Bool×AK):=[(false,.row aj)]
abbrev VO (a0:Option Nat) (H:HP) (K:HT R11→HP→Prop):Prop:=ae Tryz.prog 11 P11 (a0,()) R11 H K
abbrev P12:List (Bool×AK):=[(true,aj),(false,.row .byte)]
abbrev M0:List (Bool×AK):=[(false,.one .bool)]
abbrev C12 (a0:aq) (a1:List UInt8) (H:HP) (K:HT M0→HP→Prop):Prop:=ae Tryz.prog 12 P12 (a0,a1,()) M0 H K
abbrev Q12 (a0:aq) (a1:List UInt8) (K:HT M0→Prop):Prop:=ck Tryz.prog 12 P12 (a0,a1,()) M0 K
abbrev S12 (a0:aq) (a1:List UInt8) (r:HT M0):Prop:=bB Tryz.prog 12 P12 (a0,a1,()) M0 r
abbrev P13:List (Bool×AK):=[(false,.ref),(false,.one (.int .i64)),(false,.one (.int .i64)),(false,.one (.int .i64))]
abbrev R13:List (Bool×AK):=[(true,.cons (.one (.int .i64)) (.cons (.one .bool) (.cons (.row .byte) (.cons (.row aj) (.one (.int .u64)))))),(false,.one .any)]
abbrev C13 (a0:Option Nat) (a1:Int) (a2:Int) (a3:Int) (H:HP) (K:HT R13→HP→Prop):Prop:=ae Tryz.prog 13 P13 (a0,a1,a2,a3,()) R13 H K
abbrev P14:List (Bool×AK):=[(true,.cons (.one (.int .i64)) (.cons (.one .bool) (.cons (.row .byte) (.cons (.row aj) (.one (.int .u64)))))),(true,.cons (.one (.int .i64)) (.cons (.one .bool) (.cons (.row .byte) (.cons (.row aj) (.one (.int .u64))))))]
abbrev M1:List (Bool×AK):=[(false,.one .bool)]
abbrev C14 (a0:kz) (a1:kz) (H:HP) (K:HT M1→HP→Prop):Prop:=ae Tryz.prog 14 P14 (a0,a1,()) M1 H K
abbrev Q14 (a0:kz) (a1:kz) (K:HT M1→Prop):Prop:=ck Tryz.prog 14 P14 (a0,a1,()) M1 K
abbrev S14 (a0:kz) (a1:kz) (r:HT M1):Prop:=bB Tryz.prog 14 P14 (a0,a1,()) M1 r
abbrev P15:List (Bool×AK):=[]
abbrev M3:List (Bool×AK):=[(true,kCF)]
abbrev C15 (H:HP) (K:HT M3→HP→Prop):Prop:=ae Tryz.prog 15 P15 (()) M3 H K
abbrev Q15 (K:HT M3→Prop):Prop:=ck Tryz.prog 15 P15 (()) M3 K
abbrev ZE (r:HT M3):Prop:=bB Tryz.prog 15 P15 (()) M3 r
abbrev VP:List (Bool×AK):=[(true,aj)]
abbrev IQ:List (Bool×AK):=[(false,.one .bool)]
abbrev C16 (a0:aq) (H:HP) (K:HT IQ→HP→Prop):Prop:=ae Tryz.prog 16 VP (a0,()) IQ H K
abbrev VQ (a0:aq) (K:HT IQ→Prop):Prop:=ck Tryz.prog 16 VP (a0,()) IQ K
abbrev S16 (a0:aq) (r:HT IQ):Prop:=bB Tryz.prog 16 VP (a0,()) IQ r
abbrev P17:List (Bool×AK):=[(false,.one (.int .i64))]
abbrev R17:List (Bool×AK):=[(false,.ref),(false,.one .any)]
abbrev C17 (a0:Int) (H:HP) (K:HT R17→HP→Prop):Prop:=ae Tryz.prog 17 P17 (a0,()) R17 H K
abbrev P18:List (Bool×AK):=[(false,.one (.int .i64))]
abbrev R18:List (Bool×AK):=[(false,.ref),(false,.one .any)]
abbrev C18 (a0:Int) (H:HP) (K:HT R18→HP→Prop):Prop:=ae Tryz.prog 18 P18 (a0,()) R18 H K
abbrev P19:List (Bool×AK):=[(false,.one (.int .i64))]
abbrev R19:List (Bool×AK):=[(false,.ref),(false,.one .any)]
abbrev C19 (a0:Int) (H:HP) (K:HT R19→HP→Prop):Prop:=ae Tryz.prog 19 P19 (a0,()) R19 H K
abbrev P20:List (Bool×AK):=[(true,aj)]
abbrev M4:List (Bool×AK):=[(true,aj)]
abbrev C20 (a0:aq) (H:HP) (K:HT M4→HP→Prop):Prop:=ae Tryz.prog 20 P20 (a0,()) M4 H K
abbrev Q20 (a0:aq) (K:HT M4→Prop):Prop:=ck Tryz.prog 20 P20 (a0,()) M4 K
abbrev S20 (a0:aq) (r:HT M4):Prop:=bB Tryz.prog 20 P20 (a0,()) M4 r
abbrev P21:List (Bool×AK):=[]
abbrev R21:List (Bool×AK):=[(false,.ref)]
abbrev C21 (H:HP) (K:HT R21→HP→Prop):Prop:=ae Tryz.prog 21 P21 (()) R21 H K
abbrev M5:List (Bool×AK):=[(true,aM)]
abbrev Ej:List (Bool×AK):=[(false,.one .bool)]
abbrev C22 (a0:aO) (H:HP) (K:HT Ej→HP→Prop):Prop:=ae Tryz.prog 22 M5 (a0,()) Ej H K
abbrev Q22 (a0:aO) (K:HT Ej→Prop):Prop:=ck Tryz.prog 22 M5 (a0,()) Ej K
abbrev S22 (a0:aO) (r:HT Ej):Prop:=bB Tryz.prog 22 M5 (a0,()) Ej r
abbrev P23:List (Bool×AK):=[(false,.ref),(true,aM)]
abbrev VR:List (Bool×AK):=[(false,.one .bool)]
abbrev C23 (a0:Option Nat) (a1:aO) (H:HP) (K:HT VR→HP→Prop):Prop:=ae Tryz.prog 23 P23 (a0,a1,()) VR H K
abbrev Z23 (a0:Option Nat) (a1:aO) (H:HP) (K:HT VR→Prop):Prop:=fS Tryz.prog 23 P23 (a0,a1,()) VR H K
abbrev P24:List (Bool×AK):=[(false,.ref),(true,aM)]
abbrev R24:List (Bool×AK):=[(false,.one (.int .i64)),(false,.one .any)]
abbrev C24 (a0:Option Nat) (a1:aO) (H:HP) (K:HT R24→HP→Prop):Prop:=ae Tryz.prog 24 P24 (a0,a1,()) R24 H K
abbrev P25:List (Bool×AK):=[(false,.ref),(false,.one (.int .i64)),(false,.one (.int .i64))]
abbrev R25:List (Bool×AK):=[(false,.one (.int .u64)),(false,.one .any)]
abbrev C25 (a0:Option Nat) (a1:Int) (a2:Int) (H:HP) (K:HT R25→HP→Prop):Prop:=ae Tryz.prog 25 P25 (a0,a1,a2,()) R25 H K
abbrev P26:List (Bool×AK):=[(false,.ref)]
abbrev R26:List (Bool×AK):=[(false,.one (.int .i64)),(false,.row (.cons aM dH)),(false,.one .any)]
abbrev C26 (a0:Option Nat) (H:HP) (K:HT R26→HP→Prop):Prop:=ae Tryz.prog 26 P26 (a0,()) R26 H K
abbrev P27:List (Bool×AK):=[(false,.ref),(false,.one (.int .i64)),(false,.one (.int .u64))]
abbrev R27:List (Bool×AK):=[(false,.one .any)]
abbrev C27 (a0:Option Nat) (a1:Int) (a2:Int) (H:HP) (K:HT R27→HP→Prop):Prop:=ae Tryz.prog 27 P27 (a0,a1,a2,()) R27 H K
abbrev P28:List (Bool×AK):=[(false,.ref)]
abbrev VS:List (Bool×AK):=[(false,.row aj)]
abbrev C28 (a0:Option Nat) (H:HP) (K:HT VS→HP→Prop):Prop:=ae Tryz.prog 28 P28 (a0,()) VS H K
abbrev Z28 (a0:Option Nat) (H:HP) (K:HT VS→Prop):Prop:=fS Tryz.prog 28 P28 (a0,()) VS H K
abbrev P29:List (Bool×AK):=[(false,.row .byte),(false,.row .byte)]
abbrev M6:List (Bool×AK):=[(false,.one .bool)]
abbrev C29 (a0:List UInt8) (a1:List UInt8) (H:HP) (K:HT M6→HP→Prop):Prop:=ae Tryz.prog 29 P29 (a0,a1,()) M6 H K
abbrev Q29 (a0:List UInt8) (a1:List UInt8) (K:HT M6→Prop):Prop:=ck Tryz.prog 29 P29 (a0,a1,()) M6 K
abbrev S29 (a0:List UInt8) (a1:List UInt8) (r:HT M6):Prop:=bB Tryz.prog 29 P29 (a0,a1,()) M6 r
abbrev P30:List (Bool×AK):=[(false,.ref),(false,.one (.int .i64)),(false,.one (.int .i64)),(false,.one (.int .i64))]
abbrev R30:List (Bool×AK):=[(true,.cons (.one (.int .i64)) (.cons (.one .bool) (.cons (.row .byte) (.cons (.row aj) (.one (.int .u64)))))),(false,.one .any)]
abbrev C30 (a0:Option Nat) (a1:Int) (a2:Int) (a3:Int) (H:HP) (K:HT R30→HP→Prop):Prop:=ae Tryz.prog 30 P30 (a0,a1,a2,a3,()) R30 H K
abbrev P31:List (Bool×AK):=[(false,.row aj),(false,.row aj)]
abbrev M7:List (Bool×AK):=[(false,.one .bool)]
abbrev C31 (a0:List aq) (a1:List aq) (H:HP) (K:HT M7→HP→Prop):Prop:=ae Tryz.prog 31 P31 (a0,a1,()) M7 H K
abbrev Q31 (a0:List aq) (a1:List aq) (K:HT M7→Prop):Prop:=ck Tryz.prog 31 P31 (a0,a1,()) M7 K
abbrev S31 (a0:List aq) (a1:List aq) (r:HT M7):Prop:=bB Tryz.prog 31 P31 (a0,a1,()) M7 r
abbrev QW:List (Bool×AK):=[(false,.row .byte),(false,.row .byte)]
abbrev F1:List (Bool×AK):=[(false,.one (.int .i64))]
abbrev C32 (a0:List UInt8) (a1:List UInt8) (H:HP) (K:HT F1→HP→Prop):Prop:=ae Tryz.prog 32 QW (a0,a1,()) F1 H K
abbrev M8 (a0:List UInt8) (a1:List UInt8) (K:HT F1→Prop):Prop:=ck Tryz.prog 32 QW (a0,a1,()) F1 K
abbrev S32 (a0:List UInt8) (a1:List UInt8) (r:HT F1):Prop:=bB Tryz.prog 32 QW (a0,a1,()) F1 r
abbrev P33:List (Bool×AK):=[]
abbrev R33:List (Bool×AK):=[(false,.ref)]
abbrev C33 (H:HP) (K:HT R33→HP→Prop):Prop:=ae Tryz.prog 33 P33 (()) R33 H K
abbrev P34:List (Bool×AK):=[(false,.ref),(true,.cons (.one .bool) (.cons (.row aj) (.cons (.row (.row .byte)) (.cons (.row (.one (.int .i64))) (.one (.int .i64))))))]
abbrev ZF:List (Bool×AK):=[(false,.one (.int .i64))]
abbrev M9 (a0:Option Nat) (a1:Bool×(List aq)×List (List UInt8)×List Int×Int) (H:HP) (K:HT ZF→HP→Prop):Prop:=ae Tryz.prog 34 P34 (a0,a1,()) ZF H K
abbrev QX:List (Bool×AK):=[(false,.row .byte)]
abbrev M_:List (Bool×AK):=[(false,.row .byte)]
abbrev oI (a0:List UInt8) (K:HT M_→Prop):Prop:=ck Tryz.prog 35 QX (a0,()) M_ K
abbrev QY:List (Bool×AK):=[(false,.row .byte)]
abbrev F2:List (Bool×AK):=[(false,.one .bool)]
abbrev C36 (a0:List UInt8) (H:HP) (K:HT F2→HP→Prop):Prop:=ae Tryz.prog 36 QY (a0,()) F2 H K
abbrev Q36 (a0:List UInt8) (K:HT F2→Prop):Prop:=ck Tryz.prog 36 QY (a0,()) F2 K
abbrev S36 (a0:List UInt8) (r:HT F2):Prop:=bB Tryz.prog 36 QY (a0,()) F2 r
abbrev VT:List (Bool×AK):=[(false,.row .byte)]
abbrev IS:List (Bool×AK):=[(false,.one .bool)]
abbrev C37 (a0:List UInt8) (H:HP) (K:HT IS→HP→Prop):Prop:=ae Tryz.prog 37 VT (a0,()) IS H K
abbrev Q37 (a0:List UInt8) (K:HT IS→Prop):Prop:=ck Tryz.prog 37 VT (a0,()) IS K
abbrev S37 (a0:List UInt8) (r:HT IS):Prop:=bB Tryz.prog 37 VT (a0,()) IS r
abbrev VU:List (Bool×AK):=[(true,aj),(false,.row .byte)]
abbrev IT:List (Bool×AK):=[(false,.one .bool)]
abbrev C38 (a0:aq) (a1:List UInt8) (H:HP) (K:HT IT→HP→Prop):Prop:=ae Tryz.prog 38 VU (a0,a1,()) IT H K
abbrev Q38 (a0:aq) (a1:List UInt8) (K:HT IT→Prop):Prop:=ck Tryz.prog 38 VU (a0,a1,()) IT K
abbrev S38 (a0:aq) (a1:List UInt8) (r:HT IT):Prop:=bB Tryz.prog 38 VU (a0,a1,()) IT r
abbrev P39:List (Bool×AK):=[(false,.ref),(true,aM)]
abbrev VV:List (Bool×AK):=[(true,aj),(false,.one .bool)]
abbrev C39 (a0:Option Nat) (a1:aO) (H:HP) (K:HT VV→HP→Prop):Prop:=ae Tryz.prog 39 P39 (a0,a1,()) VV H K
abbrev Z39 (a0:Option Nat) (a1:aO) (H:HP) (K:HT VV→Prop):Prop:=fS Tryz.prog 39 P39 (a0,a1,()) VV H K
abbrev ZG:List (Bool×AK):=[(true,.cons (.one (.int .i64)) (.cons aM dH)),(false,.ref)]
abbrev M':List (Bool×AK):=[(false,.one .bool)]
abbrev C40 (a0:QV) (a1:Option Nat) (H:HP) (K:HT M'→HP→Prop):Prop:=ae Tryz.prog 40 ZG (a0,a1,()) M' H K
abbrev P41:List (Bool×AK):=[(false,.ref),(false,.one (.int .i64))]
abbrev ZH:List (Bool×AK):=[(false,.one (.int .i64))]
abbrev C41 (a0:Option Nat) (a1:Int) (H:HP) (K:HT ZH→HP→Prop):Prop:=ae Tryz.prog 41 P41 (a0,a1,()) ZH H K
abbrev VW:List (Bool×AK):=[(false,.one .sl),(false,.fn 40)]
abbrev F3:List (Bool×AK):=[(false,.one .bool)]
abbrev C42 (a0:Sl) (a1:List Nat) (H:HP) (K:HT F3→HP→Prop):Prop:=ae Tryz.prog 42 VW (a0,a1,()) F3 H K
abbrev Z42 (a0:Sl) (a1:List Nat) (H:HP) (K:HT F3→Prop):Prop:=fS Tryz.prog 42 VW (a0,a1,()) F3 H K
abbrev P43:List (Bool×AK):=[(true,aM)]
abbrev Na:List (Bool×AK):=[(true,aM)]
abbrev C43 (a0:aO) (H:HP) (K:HT Na→HP→Prop):Prop:=ae Tryz.prog 43 P43 (a0,()) Na H K
abbrev Q43 (a0:aO) (K:HT Na→Prop):Prop:=ck Tryz.prog 43 P43 (a0,()) Na K
abbrev S43 (a0:aO) (r:HT Na):Prop:=bB Tryz.prog 43 P43 (a0,()) Na r
abbrev P44:List (Bool×AK):=[(false,.one (.int .i64)),(false,.one (.int .i64))]
abbrev Nb:List (Bool×AK):=[(false,.one .bool)]
abbrev C44 (a0:Int) (a1:Int) (H:HP) (K:HT Nb→HP→Prop):Prop:=ae Tryz.prog 44 P44 (a0,a1,()) Nb H K
abbrev Q44 (a0:Int) (a1:Int) (K:HT Nb→Prop):Prop:=ck Tryz.prog 44 P44 (a0,a1,()) Nb K
abbrev S44 (a0:Int) (a1:Int) (r:HT Nb):Prop:=bB Tryz.prog 44 P44 (a0,a1,()) Nb r
abbrev P45:List (Bool×AK):=[(false,.ref),(false,.one (.int .i64))]
abbrev VX:List (Bool×AK):=[(false,.one (.int .i64)),(false,.one .bool)]
abbrev C45 (a0:Option Nat) (a1:Int) (H:HP) (K:HT VX→HP→Prop):Prop:=ae Tryz.prog 45 P45 (a0,a1,()) VX H K
abbrev Z45 (a0:Option Nat) (a1:Int) (H:HP) (K:HT VX→Prop):Prop:=fS Tryz.prog 45 P45 (a0,a1,()) VX H K
abbrev P46:List (Bool×AK):=[(false,.ref)]
abbrev VY:List (Bool×AK):=[(false,.row aM)]
abbrev C46 (a0:Option Nat) (H:HP) (K:HT VY→HP→Prop):Prop:=ae Tryz.prog 46 P46 (a0,()) VY H K
abbrev Z46 (a0:Option Nat) (H:HP) (K:HT VY→Prop):Prop:=fS Tryz.prog 46 P46 (a0,()) VY H K
abbrev P47:List (Bool×AK):=[(false,.ref),(false,.row aM)]
abbrev R47:List (Bool×AK):=[(false,.row (.cons aM dH)),(false,.one .any)]
abbrev C47 (a0:Option Nat) (a1:List aO) (H:HP) (K:HT R47→HP→Prop):Prop:=ae Tryz.prog 47 P47 (a0,a1,()) R47 H K
abbrev P48:List (Bool×AK):=[(false,.ref)]
abbrev QZ:List (Bool×AK):=[(false,.one (.int .i64)),(true,.cons (.one (.int .i64)) (.cons (.one .bool) (.cons (.row .byte) (.cons (.row aj) (.one (.int .u64)))))),(false,.one .bool)]
abbrev C48 (a0:Option Nat) (H:HP) (K:HT QZ→HP→Prop):Prop:=ae Tryz.prog 48 P48 (a0,()) QZ H K
abbrev Z48 (a0:Option Nat) (H:HP) (K:HT QZ→Prop):Prop:=fS Tryz.prog 48 P48 (a0,()) QZ H K
abbrev P49:List (Bool×AK):=[(false,.ref),(false,.one (.int .i64)),(true,.cons (.one (.int .i64)) (.cons (.one .bool) (.cons (.row .byte) (.cons (.row aj) (.one (.int .u64))))))]
abbrev R49:List (Bool×AK):=[(false,.one .any)]
abbrev C49 (a0:Option Nat) (a1:Int) (a2:kz) (H:HP) (K:HT R49→HP→Prop):Prop:=ae Tryz.prog 49 P49 (a0,a1,a2,()) R49 H K
abbrev P50:List (Bool×AK):=[(false,.ref)]
abbrev VZ:List (Bool×AK):=[(false,.row (.one (.int .i64))),(false,.row aM)]
abbrev C50 (a0:Option Nat) (H:HP) (K:HT VZ→HP→Prop):Prop:=ae Tryz.prog 50 P50 (a0,()) VZ H K
abbrev Z50 (a0:Option Nat) (H:HP) (K:HT VZ→Prop):Prop:=fS Tryz.prog 50 P50 (a0,()) VZ H K
abbrev P51:List (Bool×AK):=[(false,.ref)]
abbrev R51:List (Bool×AK):=[(false,.one .bool)]
abbrev C51 (a0:Option Nat) (H:HP) (K:HT R51→HP→Prop):Prop:=ae Tryz.prog 51 P51 (a0,()) R51 H K
abbrev P52:List (Bool×AK):=[(false,.ref),(false,.one (.int .i64))]
abbrev R52:List (Bool×AK):=[(false,.one .any)]
abbrev C52 (a0:Option Nat) (a1:Int) (H:HP) (K:HT R52→HP→Prop):Prop:=ae Tryz.prog 52 P52 (a0,a1,()) R52 H K
abbrev P53:List (Bool×AK):=[(false,.ref),(false,.row (.one (.int .i64))),(false,.row aM)]
abbrev R53:List (Bool×AK):=[(false,.one .any)]
abbrev C53 (a0:Option Nat) (a1:List Int) (a2:List aO) (H:HP) (K:HT R53→HP→Prop):Prop:=ae Tryz.prog 53 P53 (a0,a1,a2,()) R53 H K
abbrev P54:List (Bool×AK):=[(false,.ref),(false,.one (.int .i64)),(false,.one (.int .u64))]
abbrev V0:List (Bool×AK):=[(false,.one .any)]
abbrev C54 (a0:Option Nat) (a1:Int) (a2:Int) (H:HP) (K:HT V0→HP→Prop):Prop:=ae Tryz.prog 54 P54 (a0,a1,a2,()) V0 H K
abbrev Z54 (a0:Option Nat) (a1:Int) (a2:Int) (H:HP) (K:HT V0→Prop):Prop:=fS Tryz.prog 54 P54 (a0,a1,a2,()) V0 H K
abbrev P55:List (Bool×AK):=[(false,.ref),(false,.row .byte)]
abbrev Q0:List (Bool×AK):=[(false,.one (.int .i64))]
abbrev C55 (a0:Option Nat) (a1:List UInt8) (H:HP) (K:HT Q0→HP→Prop):Prop:=ae Tryz.prog 55 P55 (a0,a1,()) Q0 H K
abbrev Z55 (a0:Option Nat) (a1:List UInt8) (H:HP) (K:HT Q0→Prop):Prop:=fS Tryz.prog 55 P55 (a0,a1,()) Q0 H K
abbrev Lp:List (Bool×AK):=[(false,.ref),(false,.one (.int .i64))]
abbrev zd:List (Bool×AK):=[(true,.cons (.one .bool) (.cons (.row aj) (.cons (.row (.row .byte)) (.cons (.row (.one (.int .i64))) (.one (.int .i64)))))),(false,.one .bool)]
abbrev V1 (a0:Option Nat) (a1:Int) (H:HP) (K:HT zd→HP→Prop):Prop:=ae Tryz.prog 56 Lp (a0,a1,()) zd H K
abbrev Q1 (a0:Option Nat) (a1:Int) (H:HP) (K:HT zd→Prop):Prop:=fS Tryz.prog 56 Lp (a0,a1,()) zd H K
abbrev P57:List (Bool×AK):=[(false,.ref),(false,.one (.int .i64))]
abbrev V2:List (Bool×AK):=[(false,.one .ptr)]
abbrev C57 (a0:Option Nat) (a1:Int) (H:HP) (K:HT V2→HP→Prop):Prop:=ae Tryz.prog 57 P57 (a0,a1,()) V2 H K
abbrev Z57 (a0:Option Nat) (a1:Int) (H:HP) (K:HT V2→Prop):Prop:=fS Tryz.prog 57 P57 (a0,a1,()) V2 H K
abbrev ZI:List (Bool×AK):=[(false,.row .byte),(false,.row .byte)]
abbrev Q2:List (Bool×AK):=[(false,.one (.int .i64))]
abbrev C58 (a0:List UInt8) (a1:List UInt8) (H:HP) (K:HT Q2→HP→Prop):Prop:=ae Tryz.prog 58 ZI (a0,a1,()) Q2 H K
abbrev Q58 (a0:List UInt8) (a1:List UInt8) (K:HT Q2→Prop):Prop:=ck Tryz.prog 58 ZI (a0,a1,()) Q2 K
abbrev IU:List (Bool×AK):=[(true,.cons (.one .bool) (.cons (.row aj) (.cons (.row (.row .byte)) (.cons (.row (.one (.int .i64))) (.one (.int .i64))))))]
abbrev uP:List (Bool×AK):=[(true,.cons (.one .bool) (.cons (.row aj) (.cons (.row (.row .byte)) (.cons (.row (.one (.int .i64))) (.one (.int .i64))))))]
abbrev C59 (a0:Bool×(List aq)×List (List UInt8)×List Int×Int) (H:HP) (K:HT uP→HP→Prop):Prop:=ae Tryz.prog 59 IU (a0,()) uP H K
abbrev Q59 (a0:Bool×(List aq)×List (List UInt8)×List Int×Int) (K:HT uP→Prop):Prop:=ck Tryz.prog 59 IU (a0,()) uP K
abbrev S59 (a0:Bool×(List aq)×List (List UInt8)×List Int×Int) (r:HT uP):Prop:=bB Tryz.prog 59 IU (a0,()) uP r
abbrev P60:List (Bool×AK):=[(true,aj),(true,aj)]
abbrev Nc:List (Bool×AK):=[(true,aj),(false,.one .bool)]
abbrev C60 (a0:aq) (a1:aq) (H:HP) (K:HT Nc→HP→Prop):Prop:=ae Tryz.prog 60 P60 (a0,a1,()) Nc H K
abbrev Q60 (a0:aq) (a1:aq) (K:HT Nc→Prop):Prop:=ck Tryz.prog 60 P60 (a0,a1,()) Nc K
abbrev S60 (a0:aq) (a1:aq) (r:HT Nc):Prop:=bB Tryz.prog 60 P60 (a0,a1,()) Nc r
abbrev Nf:List (Bool×AK):=[(false,.one .sl),(false,.fn 62)]
abbrev AH:List (Bool×AK):=[(false,.one (.int .i64))]
abbrev C61 (a0:Sl) (a1:List Nat) (H:HP) (K:HT AH→HP→Prop):Prop:=ae Tryz.prog 61 Nf (a0,a1,()) AH H K
abbrev Z61 (a0:Sl) (a1:List Nat) (H:HP) (K:HT AH→Prop):Prop:=fS Tryz.prog 61 Nf (a0,a1,()) AH H K
abbrev P62:List (Bool×AK):=[(true,.cons (.one (.int .i64)) (.cons aM dH)),(false,.ref)]
abbrev R62:List (Bool×AK):=[(false,.one .bool)]
abbrev C62 (a0:QV) (a1:Option Nat) (H:HP) (K:HT R62→HP→Prop):Prop:=ae Tryz.prog 62 P62 (a0,a1,()) R62 H K
abbrev P63:List (Bool×AK):=[(false,.ref)]
abbrev V3:List (Bool×AK):=[(false,.one .sl)]
abbrev C63 (a0:Option Nat) (H:HP) (K:HT V3→HP→Prop):Prop:=ae Tryz.prog 63 P63 (a0,()) V3 H K
abbrev Z63 (a0:Option Nat) (H:HP) (K:HT V3→Prop):Prop:=fS Tryz.prog 63 P63 (a0,()) V3 H K
abbrev P64:List (Bool×AK):=[(true,aM)]
abbrev Ng:List (Bool×AK):=[(true,aM)]
abbrev C64 (a0:aO) (H:HP) (K:HT Ng→HP→Prop):Prop:=ae Tryz.prog 64 P64 (a0,()) Ng H K
abbrev Q64 (a0:aO) (K:HT Ng→Prop):Prop:=ck Tryz.prog 64 P64 (a0,()) Ng K
abbrev S64 (a0:aO) (r:HT Ng):Prop:=bB Tryz.prog 64 P64 (a0,()) Ng r
abbrev P65:List (Bool×AK):=[(false,.ref),(false,.row aM)]
abbrev R65:List (Bool×AK):=[(false,.row dH),(false,.one .any)]
abbrev C65 (a0:Option Nat) (a1:List aO) (H:HP) (K:HT R65→HP→Prop):Prop:=ae Tryz.prog 65 P65 (a0,a1,()) R65 H K
abbrev P66:List (Bool×AK):=[(false,.ref),(false,.bQ dH)]
abbrev R66:List (Bool×AK):=[(false,.one .any)]
abbrev C66 (a0:Option Nat) (a1:List kz) (H:HP) (K:HT R66→HP→Prop):Prop:=ae Tryz.prog 66 P66 (a0,a1,()) R66 H K
abbrev P67:List (Bool×AK):=[(false,.ref)]
abbrev V4:List (Bool×AK):=[(false,.one (.int .i64))]
abbrev C67 (a0:Option Nat) (H:HP) (K:HT V4→HP→Prop):Prop:=ae Tryz.prog 67 P67 (a0,()) V4 H K
abbrev Z67 (a0:Option Nat) (H:HP) (K:HT V4→Prop):Prop:=fS Tryz.prog 67 P67 (a0,()) V4 H K
abbrev P68:List (Bool×AK):=[(true,.cons (.one (.int .i64)) (.cons (.one .bool) (.cons (.row .byte) (.cons (.row aj) (.one (.int .u64))))))]
abbrev Nh:List (Bool×AK):=[(true,.cons (.one (.int .i64)) (.cons (.one .bool) (.cons (.row .byte) (.cons (.row aj) (.one (.int .u64))))))]
abbrev C68 (a0:kz) (H:HP) (K:HT Nh→HP→Prop):Prop:=ae Tryz.prog 68 P68 (a0,()) Nh H K
abbrev Q68 (a0:kz) (K:HT Nh→Prop):Prop:=ck Tryz.prog 68 P68 (a0,()) Nh K
abbrev S68 (a0:kz) (r:HT Nh):Prop:=bB Tryz.prog 68 P68 (a0,()) Nh r
abbrev P69:List (Bool×AK):=[(false,.ref),(false,.one (.int .i64)),(true,.cons (.one (.int .i64)) (.cons (.one .bool) (.cons (.row .byte) (.cons (.row aj) (.one (.int .u64))))))]
abbrev R69:List (Bool×AK):=[(false,.one .any)]
abbrev C69 (a0:Option Nat) (a1:Int) (a2:kz) (H:HP) (K:HT R69→HP→Prop):Prop:=ae Tryz.prog 69 P69 (a0,a1,a2,()) R69 H K
abbrev P70:List (Bool×AK):=[(false,.ref)]
abbrev R70:List (Bool×AK):=[(false,.one .any)]
abbrev C70 (a0:Option Nat) (H:HP) (K:HT R70→HP→Prop):Prop:=ae Tryz.prog 70 P70 (a0,()) R70 H K
abbrev P71:List (Bool×AK):=[(false,.ref)]
abbrev V5:List (Bool×AK):=[(false,.one (.int .i64))]
abbrev C71 (a0:Option Nat) (H:HP) (K:HT V5→HP→Prop):Prop:=ae Tryz.prog 71 P71 (a0,()) V5 H K
abbrev Z71 (a0:Option Nat) (H:HP) (K:HT V5→Prop):Prop:=fS Tryz.prog 71 P71 (a0,()) V5 H K
abbrev P72:List (Bool×AK):=[(false,.ref),(false,.one (.int .i64))]
abbrev V6:List (Bool×AK):=[(true,aM),(false,.one .any)]
abbrev C72 (a0:Option Nat) (a1:Int) (H:HP) (K:HT V6→HP→Prop):Prop:=ae Tryz.prog 72 P72 (a0,a1,()) V6 H K
abbrev Z72 (a0:Option Nat) (a1:Int) (H:HP) (K:HT V6→Prop):Prop:=fS Tryz.prog 72 P72 (a0,a1,()) V6 H K
abbrev P73:List (Bool×AK):=[(false,.ref),(false,.one (.int .i64))]
abbrev V7:List (Bool×AK):=[(false,.one (.int .i64))]
abbrev C73 (a0:Option Nat) (a1:Int) (H:HP) (K:HT V7→HP→Prop):Prop:=ae Tryz.prog 73 P73 (a0,a1,()) V7 H K
abbrev Z73 (a0:Option Nat) (a1:Int) (H:HP) (K:HT V7→Prop):Prop:=fS Tryz.prog 73 P73 (a0,a1,()) V7 H K
abbrev P74:List (Bool×AK):=[(false,.ref),(false,.one (.int .i64))]
abbrev R74:List (Bool×AK):=[(false,.one .any)]
abbrev C74 (a0:Option Nat) (a1:Int) (H:HP) (K:HT R74→HP→Prop):Prop:=ae Tryz.prog 74 P74 (a0,a1,()) R74 H K
abbrev P75:List (Bool×AK):=[(false,.ref),(false,.one (.int .i64)),(false,.one (.int .i64)),(false,.row (.one (.int .i64)))]
abbrev R75:List (Bool×AK):=[(false,.one .any)]
abbrev C75 (a0:Option Nat) (a1:Int) (a2:Int) (a3:List Int) (H:HP) (K:HT R75→HP→Prop):Prop:=ae Tryz.prog 75 P75 (a0,a1,a2,a3,()) R75 H K
abbrev P76:List (Bool×AK):=[(false,.ref)]
abbrev V8:List (Bool×AK):=[(false,.one .bool)]
abbrev C76 (a0:Option Nat) (H:HP) (K:HT V8→HP→Prop):Prop:=ae Tryz.prog 76 P76 (a0,()) V8 H K
abbrev Z76 (a0:Option Nat) (H:HP) (K:HT V8→Prop):Prop:=fS Tryz.prog 76 P76 (a0,()) V8 H K
abbrev P77:List (Bool×AK):=[(false,.row (.one (.int .i64))),(false,.row aM)]
abbrev Ni:List (Bool×AK):=[(false,.one .bool)]
abbrev C77 (a0:List Int) (a1:List aO) (H:HP) (K:HT Ni→HP→Prop):Prop:=ae Tryz.prog 77 P77 (a0,a1,()) Ni H K
abbrev Q77 (a0:List Int) (a1:List aO) (K:HT Ni→Prop):Prop:=ck Tryz.prog 77 P77 (a0,a1,()) Ni K
abbrev S77 (a0:List Int) (a1:List aO) (r:HT Ni):Prop:=bB Tryz.prog 77 P77 (a0,a1,()) Ni r
abbrev P78:List (Bool×AK):=[(false,.row aM)]
abbrev R78:List (Bool×AK):=[(false,.row (.one .sl))]
abbrev C78 (a0:List aO) (H:HP) (K:HT R78→HP→Prop):Prop:=ae Tryz.prog 78 P78 (a0,()) R78 H K
abbrev P79:List (Bool×AK):=[(false,.ref),(false,.row .byte)]
abbrev V9:List (Bool×AK):=[(false,.row (.one (.int .i64)))]
abbrev C79 (a0:Option Nat) (a1:List UInt8) (H:HP) (K:HT V9→HP→Prop):Prop:=ae Tryz.prog 79 P79 (a0,a1,()) V9 H K
abbrev Z79 (a0:Option Nat) (a1:List UInt8) (H:HP) (K:HT V9→Prop):Prop:=fS Tryz.prog 79 P79 (a0,a1,()) V9 H K
abbrev P80:List (Bool×AK):=[(false,.ref),(false,.one (.int .i64))]
abbrev Q3:List (Bool×AK):=[(false,.one .bool)]
abbrev C80 (a0:Option Nat) (a1:Int) (H:HP) (K:HT Q3→HP→Prop):Prop:=ae Tryz.prog 80 P80 (a0,a1,()) Q3 H K
abbrev Z80 (a0:Option Nat) (a1:Int) (H:HP) (K:HT Q3→Prop):Prop:=fS Tryz.prog 80 P80 (a0,a1,()) Q3 H K
abbrev V_:List (Bool×AK):=[(false,.row (.one (.int .i64)))]
abbrev IV:List (Bool×AK):=[(false,.row (.one (.int .i64)))]
abbrev C82 (a0:List Int) (H:HP) (K:HT IV→HP→Prop):Prop:=ae Tryz.prog 82 V_ (a0,()) IV H K
abbrev Q82 (a0:List Int) (K:HT IV→Prop):Prop:=ck Tryz.prog 82 V_ (a0,()) IV K
abbrev P83:List (Bool×AK):=[(false,.row .byte),(false,.row .byte)]
abbrev Nj:List (Bool×AK):=[(true,aj)]
abbrev C83 (a0:List UInt8) (a1:List UInt8) (H:HP) (K:HT Nj→HP→Prop):Prop:=ae Tryz.prog 83 P83 (a0,a1,()) Nj H K
abbrev Q83 (a0:List UInt8) (a1:List UInt8) (K:HT Nj→Prop):Prop:=ck Tryz.prog 83 P83 (a0,a1,()) Nj K
abbrev S83 (a0:List UInt8) (a1:List UInt8) (r:HT Nj):Prop:=bB Tryz.prog 83 P83 (a0,a1,()) Nj r
abbrev P84:List (Bool×AK):=[(false,.ref),(true,aM)]
abbrev R84:List (Bool×AK):=[(true,.cons (.one (.int .i64)) (.cons (.one .bool) (.cons (.row .byte) (.cons (.row aj) (.one (.int .u64)))))),(false,.one .any)]
abbrev C84 (a0:Option Nat) (a1:aO) (H:HP) (K:HT R84→HP→Prop):Prop:=ae Tryz.prog 84 P84 (a0,a1,()) R84 H K
abbrev P85:List (Bool×AK):=[(false,.ref),(false,.row .byte)]
abbrev Wa:List (Bool×AK):=[(false,.row .byte),(false,.one .bool)]
abbrev C85 (a0:Option Nat) (a1:List UInt8) (H:HP) (K:HT Wa→HP→Prop):Prop:=ae Tryz.prog 85 P85 (a0,a1,()) Wa H K
abbrev Z85 (a0:Option Nat) (a1:List UInt8) (H:HP) (K:HT Wa→Prop):Prop:=fS Tryz.prog 85 P85 (a0,a1,()) Wa H K
abbrev P86:List (Bool×AK):=[(false,.one .bool),(false,.row .byte),(false,.one .bool),(false,.row aM)]
abbrev Nk:List (Bool×AK):=[(true,.cons (.row dH) (.cons (.one .bool) (.cons (.row .byte) (.one .bool)))),(false,.one .any)]
abbrev C86 (a0:Bool) (a1:List UInt8) (a2:Bool) (a3:List aO) (H:HP) (K:HT Nk→HP→Prop):Prop:=ae Tryz.prog 86 P86 (a0,a1,a2,a3,()) Nk H K
abbrev Q86 (a0:Bool) (a1:List UInt8) (a2:Bool) (a3:List aO) (K:HT Nk→Prop):Prop:=ck Tryz.prog 86 P86 (a0,a1,a2,a3,()) Nk K
abbrev S86 (a0:Bool) (a1:List UInt8) (a2:Bool) (a3:List aO) (r:HT Nk):Prop:=bB Tryz.prog 86 P86 (a0,a1,a2,a3,()) Nk r
abbrev P87:List (Bool×AK):=[(false,.ref),(false,.row .byte),(true,.cons (.row dH) (.cons (.one .bool) (.cons (.row .byte) (.one .bool))))]
abbrev R87:List (Bool×AK):=[(false,.one .any)]
abbrev C87 (a0:Option Nat) (a1:List UInt8) (a2:(List kz)×Bool×List UInt8×Bool) (H:HP) (K:HT R87→HP→Prop):Prop:=ae Tryz.prog 87 P87 (a0,a1,a2,()) R87 H K
abbrev P88:List (Bool×AK):=[(true,.cons (.one (.int .i64)) (.cons (.one .bool) (.cons (.row .byte) (.cons (.row aj) (.one (.int .u64))))))]
abbrev Nl:List (Bool×AK):=[(true,.cons (.one (.int .i64)) (.cons (.one .bool) (.cons (.row .byte) (.cons (.row aj) (.one (.int .u64))))))]
abbrev C88 (a0:kz) (H:HP) (K:HT Nl→HP→Prop):Prop:=ae Tryz.prog 88 P88 (a0,()) Nl H K
abbrev Q88 (a0:kz) (K:HT Nl→Prop):Prop:=ck Tryz.prog 88 P88 (a0,()) Nl K
abbrev S88 (a0:kz) (r:HT Nl):Prop:=bB Tryz.prog 88 P88 (a0,()) Nl r
abbrev ZJ:List (Bool×AK):=[(false,.row (.one (.int .i64))),(false,.one (.int .i64))]
abbrev Lq:List (Bool×AK):=[(false,.one .bool)]
abbrev C89 (a0:List Int) (a1:Int) (H:HP) (K:HT Lq→HP→Prop):Prop:=ae Tryz.prog 89 ZJ (a0,a1,()) Lq H K
abbrev Q89 (a0:List Int) (a1:Int) (K:HT Lq→Prop):Prop:=ck Tryz.prog 89 ZJ (a0,a1,()) Lq K
abbrev S89 (a0:List Int) (a1:Int) (r:HT Lq):Prop:=bB Tryz.prog 89 ZJ (a0,a1,()) Lq r
abbrev P90:List (Bool×AK):=[(false,.row aM)]
abbrev R90:List (Bool×AK):=[(false,.one .sl)]
abbrev C90 (a0:List aO) (H:HP) (K:HT R90→HP→Prop):Prop:=ae Tryz.prog 90 P90 (a0,()) R90 H K
abbrev ZK:List (Bool×AK):=[(true,aM)]
abbrev Lr:List (Bool×AK):=[(false,.one (.int .i64))]
abbrev C91 (a0:aO) (H:HP) (K:HT Lr→HP→Prop):Prop:=ae Tryz.prog 91 ZK (a0,()) Lr H K
abbrev Q91 (a0:aO) (K:HT Lr→Prop):Prop:=ck Tryz.prog 91 ZK (a0,()) Lr K
abbrev S91 (a0:aO) (r:HT Lr):Prop:=bB Tryz.prog 91 ZK (a0,()) Lr r
abbrev P92:List (Bool×AK):=[(false,.row .byte),(false,.row .byte)]
abbrev R92:List (Bool×AK):=[(false,.one .bool)]
abbrev Q92 (a0:List UInt8) (a1:List UInt8) (K:HT R92→Prop):Prop:=ck Tryz.prog 92 P92 (a0,a1,()) R92 K
abbrev P93:List (Bool×AK):=[(true,(.cons (.one .bool) (.cons (.bQ aj) (.cons (.bQ (.row .byte)) (.cons (.bQ (.one (.int .i64))) (.one (.int .i64))))))),(false,.row .byte)]
abbrev Q4:List (Bool×AK):=[(false,.one (.int .i64))]
abbrev C93 (a0:Bool×(List aq)×List (List UInt8)×List Int×Int) (a1:List UInt8) (H:HP) (K:HT Q4→HP→Prop):Prop:=ae Tryz.prog 93 P93 (a0,a1,()) Q4 H K
abbrev S93 (a0:Bool×(List aq)×List (List UInt8)×List Int×Int) (a1:List UInt8) (r:HT Q4):Prop:=bB Tryz.prog 93 P93 (a0,a1,()) Q4 r
abbrev P94:List (Bool×AK):=[(false,.ref),(true,aj),(false,.one (.int .i64))]
abbrev R94:List (Bool×AK):=[(false,.row aj),(false,.one .any)]
abbrev C94 (a0:Option Nat) (a1:aq) (a2:Int) (H:HP) (K:HT R94→HP→Prop):Prop:=ae Tryz.prog 94 P94 (a0,a1,a2,()) R94 H K
abbrev Q5:List (Bool×AK):=[(false,.row aj),(false,.row .byte)]
abbrev F4:List (Bool×AK):=[(false,.one (.int .i64)),(false,.one .bool)]
abbrev C95 (a0:List aq) (a1:List UInt8) (H:HP) (K:HT F4→HP→Prop):Prop:=ae Tryz.prog 95 Q5 (a0,a1,()) F4 H K
abbrev Q95 (a0:List aq) (a1:List UInt8) (K:HT F4→Prop):Prop:=ck Tryz.prog 95 Q5 (a0,a1,()) F4 K
abbrev S95 (a0:List aq) (a1:List UInt8) (r:HT F4):Prop:=bB Tryz.prog 95 Q5 (a0,a1,()) F4 r
abbrev P96:List (Bool×AK):=[(false,.row aM)]
abbrev Nm:List (Bool×AK):=[(false,.one .bool)]
abbrev C96 (a0:List aO) (H:HP) (K:HT Nm→HP→Prop):Prop:=ae Tryz.prog 96 P96 (a0,()) Nm H K
abbrev Q96 (a0:List aO) (K:HT Nm→Prop):Prop:=ck Tryz.prog 96 P96 (a0,()) Nm K
abbrev S96 (a0:List aO) (r:HT Nm):Prop:=bB Tryz.prog 96 P96 (a0,()) Nm r
abbrev P97:List (Bool×AK):=[(false,.row aj),(false,.row aM),(false,.one (.int .i64))]
abbrev Nn:List (Bool×AK):=[(false,.row aj),(false,.row dH)]
abbrev C97 (a0:List aq) (a1:List aO) (a2:Int) (H:HP) (K:HT Nn→HP→Prop):Prop:=ae Tryz.prog 97 P97 (a0,a1,a2,()) Nn H K
abbrev Q97 (a0:List aq) (a1:List aO) (a2:Int) (K:HT Nn→Prop):Prop:=ck Tryz.prog 97 P97 (a0,a1,a2,()) Nn K
abbrev S97 (a0:List aq) (a1:List aO) (a2:Int) (r:HT Nn):Prop:=bB Tryz.prog 97 P97 (a0,a1,a2,()) Nn r
abbrev P98:List (Bool×AK):=[(false,.ref),(false,.row .byte),(false,.row .byte)]
abbrev R98:List (Bool×AK):=[(false,.one .bool),(false,.one .any)]
abbrev C98 (a0:Option Nat) (a1:List UInt8) (a2:List UInt8) (H:HP) (K:HT R98→HP→Prop):Prop:=ae Tryz.prog 98 P98 (a0,a1,a2,()) R98 H K
abbrev P99:List (Bool×AK):=[(false,.ref),(false,.row .byte)]
abbrev R99:List (Bool×AK):=[(false,.one .bool),(false,.one .any)]
abbrev C99 (a0:Option Nat) (a1:List UInt8) (H:HP) (K:HT R99→HP→Prop):Prop:=ae Tryz.prog 99 P99 (a0,a1,()) R99 H K
abbrev No:List (Bool×AK):=[(false,.row (.one (.int .i64))),(false,.one (.int .i64))]
abbrev zW:List (Bool×AK):=[(false,.one (.int .i64))]
abbrev asm (a0:List Int) (a1:Int) (H:HP) (K:HT zW→HP→Prop):Prop:=ae Tryz.prog 100 No (a0,a1,()) zW H K
abbrev asn (a0:List Int) (a1:Int) (K:HT zW→Prop):Prop:=ck Tryz.prog 100 No (a0,a1,()) zW K
abbrev aiT (a0:List Int) (a1:Int) (r:HT zW):Prop:=bB Tryz.prog 100 No (a0,a1,()) zW r
abbrev abk:List (Bool×AK):=[(false,.one .sl),(false,.fn 102)]
abbrev Np:List (Bool×AK):=[]
abbrev UI (a0:Sl) (a1:List Nat) (H:HP) (K:HT Np→HP→Prop):Prop:=ae Tryz.prog 101 abk (a0,a1,()) Np H K
abbrev UJ:List (Bool×AK):=[(false,.one (.int .i64)),(false,.one (.int .i64)),(false,.ref)]
abbrev JI:List (Bool×AK):=[(false,.one (.int .i64))]
abbrev JJ (a0:Int) (a1:Int) (a2:Option Nat) (H:HP) (K:HT JI→HP→Prop):Prop:=ae Tryz.prog 102 UJ (a0,a1,a2,()) JI H K
abbrev Nq:List (Bool×AK):=[(false,.row (.one (.int .i64)))]
abbrev zX:List (Bool×AK):=[(false,.one (.int .i64))]
abbrev aso (a0:List Int) (H:HP) (K:HT zX→HP→Prop):Prop:=ae Tryz.prog 103 Nq (a0,()) zX H K
abbrev asp (a0:List Int) (K:HT zX→Prop):Prop:=ck Tryz.prog 103 Nq (a0,()) zX K
abbrev aiU (a0:List Int) (r:HT zX):Prop:=bB Tryz.prog 103 Nq (a0,()) zX r
abbrev JK:List (Bool×AK):=[(false,.bQ (.row .byte)),(false,.row .byte),(false,.one .any)]
abbrev wT:List (Bool×AK):=[(false,.one (.int .i64)),(false,.one .bool)]
abbrev asq (a0:List (List UInt8)) (a1:List UInt8) (H:HP) (K:HT wT→HP→Prop):Prop:=ae Tryz.prog 104 JK (a0,a1,.func (.func 58) #[] #[],()) wT H K
abbrev aiV (a0:List (List UInt8)) (a1:List UInt8) (K:HT wT→Prop):Prop:=ck Tryz.prog 104 JK (a0,a1,.func (.func 58) #[] #[],()) wT K
abbrev aiW (a0:List (List UInt8)) (a1:List UInt8) (r:HT wT):Prop:=bB Tryz.prog 104 JK (a0,a1,.func (.func 58) #[] #[],()) wT r
abbrev abl:List (Bool×AK):=[(false,.ref),(true,aj)]
abbrev Nr:List (Bool×AK):=[(false,.ref),(false,.one .any)]
abbrev abm (a0:Option Nat) (a1:aq) (H:HP) (K:HT Nr→HP→Prop):Prop:=ae Tryz.prog 105 abl (a0,a1,()) Nr H K
abbrev abn:List (Bool×AK):=[(false,.ref)]
abbrev Ns:List (Bool×AK):=[(true,aj),(false,.one .bool)]
abbrev abo (a0:Option Nat) (H:HP) (K:HT Ns→HP→Prop):Prop:=ae Tryz.prog 106 abn (a0,()) Ns H K
abbrev Nt:List (Bool×AK):=[(false,.row aj),(false,.row .byte),(false,.one .any)]
abbrev zY:List (Bool×AK):=[(false,.one (.int .i64)),(false,.one .bool)]
abbrev asr (a0:List aq) (a1:List UInt8) (H:HP) (K:HT zY→HP→Prop):Prop:=ae Tryz.prog 107 Nt (a0,a1,.func (.func 108) #[] #[],()) zY H K
abbrev ass (a0:List aq) (a1:List UInt8) (K:HT zY→Prop):Prop:=ck Tryz.prog 107 Nt (a0,a1,.func (.func 108) #[] #[],()) zY K
abbrev aiX (a0:List aq) (a1:List UInt8) (r:HT zY):Prop:=bB Tryz.prog 107 Nt (a0,a1,.func (.func 108) #[] #[],()) zY r
abbrev UK:List (Bool×AK):=[(true,aj),(false,.row .byte)]
abbrev Fq:List (Bool×AK):=[(false,.one (.int .i64))]
abbrev abp (a0:aq) (a1:List UInt8) (H:HP) (K:HT Fq→HP→Prop):Prop:=ae Tryz.prog 108 UK (a0,a1,()) Fq H K
abbrev aiY (a0:aq) (a1:List UInt8) (r:HT Fq):Prop:=bB Tryz.prog 108 UK (a0,a1,()) Fq r
abbrev Nu:List (Bool×AK):=[(false,.row aj),(false,.row aj)]
abbrev zZ:List (Bool×AK):=[(false,.row aj)]
abbrev ast (a0:List aq) (a1:List aq) (H:HP) (K:HT zZ→HP→Prop):Prop:=ae Tryz.prog 109 Nu (a0,a1,()) zZ H K
abbrev asu (a0:List aq) (a1:List aq) (K:HT zZ→Prop):Prop:=ck Tryz.prog 109 Nu (a0,a1,()) zZ K
abbrev aiZ (a0:List aq) (a1:List aq) (r:HT zZ):Prop:=bB Tryz.prog 109 Nu (a0,a1,()) zZ r
abbrev abq:List (Bool×AK):=[(false,.ref),(true,aM)]
abbrev Nv:List (Bool×AK):=[(true,.cons (.one (.int .i64)) (.cons (.one .bool) (.cons (.row .byte) (.cons (.row aj) (.one (.int .u64))))))]
abbrev abr (a0:Option Nat) (a1:aO) (H:HP) (K:HT Nv→HP→Prop):Prop:=ae Tryz.prog 110 abq (a0,a1,()) Nv H K
abbrev JL:List (Bool×AK):=[(false,.row aj),(false,.row .byte),(false,.row .byte)]
abbrev wU:List (Bool×AK):=[(false,.row aj),(false,.one .bool),(false,.one .any)]
abbrev asv (a0:List aq) (a1:List UInt8) (a2:List UInt8) (H:HP) (K:HT wU→HP→Prop):Prop:=ae Tryz.prog 111 JL (a0,a1,a2,()) wU H K
abbrev abt (a0:List aq) (a1:List UInt8) (a2:List UInt8) (K:HT wU→Prop):Prop:=ck Tryz.prog 111 JL (a0,a1,a2,()) wU K
abbrev aja (a0:List aq) (a1:List UInt8) (a2:List UInt8) (r:HT wU):Prop:=bB Tryz.prog 111 JL (a0,a1,a2,()) wU r
abbrev UL:List (Bool×AK):=[(false,.ref),(false,.one (.int .i64)),(true,.cons (.one .bool) (.cons (.row aj) (.cons (.row (.row .byte)) (.cons (.row (.one (.int .i64))) (.one (.int .i64))))))]
abbrev JM:List (Bool×AK):=[]
abbrev z0 (a0:Option Nat) (a1:Int) (a2:Bool×(List aq)×List (List UInt8)×List Int×Int) (H:HP) (K:HT JM→HP→Prop):Prop:=ae Tryz.prog 112 UL (a0,a1,a2,()) JM H K
abbrev Nw:List (Bool×AK):=[(false,.ref),(false,.row (.one (.int .i64)))]
abbrev Bl:List (Bool×AK):=[]
abbrev Ny (a0:Option Nat) (a1:List Int) (H:HP) (K:HT Bl→HP→Prop):Prop:=ae Tryz.prog 113 Nw (a0,a1,()) Bl H K
abbrev abu:List (Bool×AK):=[(false,.ref),(false,.row .byte)]
abbrev Nz:List (Bool×AK):=[(false,.row (.cons (.one (.int .i64)) (.one (.int .i64))))]
abbrev abv (a0:Option Nat) (a1:List UInt8) (H:HP) (K:HT Nz→HP→Prop):Prop:=ae Tryz.prog 114 abu (a0,a1,()) Nz H K
abbrev JN:List (Bool×AK):=[(false,.row aj),(false,.row .byte)]
abbrev wV:List (Bool×AK):=[(false,.row aj),(false,.one .bool)]
abbrev asw (a0:List aq) (a1:List UInt8) (H:HP) (K:HT wV→HP→Prop):Prop:=ae Tryz.prog 115 JN (a0,a1,()) wV H K
abbrev ajb (a0:List aq) (a1:List UInt8) (K:HT wV→Prop):Prop:=ck Tryz.prog 115 JN (a0,a1,()) wV K
abbrev ajc (a0:List aq) (a1:List UInt8) (r:HT wV):Prop:=bB Tryz.prog 115 JN (a0,a1,()) wV r
abbrev NA:List (Bool×AK):=[(false,.one .any)]
abbrev z8:List (Bool×AK):=[]
abbrev asx (a0:Value) (H:HP) (K:HT z8→HP→Prop):Prop:=ae Tryz.prog 116 NA (a0,()) z8 H K
abbrev Fs (a0:Value) (K:HT z8→Prop):Prop:=ck Tryz.prog 116 NA (a0,()) z8 K
abbrev ajd (a0:Value) (r:HT z8):Prop:=bB Tryz.prog 116 NA (a0,()) z8 r
abbrev UM:List (Bool×AK):=[(false,.ref),(false,.one (.int .i64)),(true,.cons (.one .bool) (.cons (.row aj) (.cons (.row (.row .byte)) (.cons (.row (.one (.int .i64))) (.one (.int .i64))))))]
abbrev JO:List (Bool×AK):=[(false,.one .any)]
abbrev Bm (a0:Option Nat) (a1:Int) (a2:Bool×(List aq)×List (List UInt8)×List Int×Int) (H:HP) (K:HT JO→HP→Prop):Prop:=ae Tryz.prog 117 UM (a0,a1,a2,()) JO H K
abbrev UN:List (Bool×AK):=[(true,(.cons (.one .bool) (.cons (.bQ aj) (.cons (.bQ (.row .byte)) (.cons (.bQ (.one (.int .i64))) (.one (.int .i64)))))))]
abbrev Ft:List (Bool×AK):=[(false,.one (.int .i64))]
abbrev asy (a0:Bool×(List aq)×List (List UInt8)×List Int×Int) (H:HP) (K:HT Ft→HP→Prop):Prop:=ae Tryz.prog 118 UN (a0,()) Ft H K
abbrev aje (a0:Bool×(List aq)×List (List UInt8)×List Int×Int) (r:HT Ft):Prop:=bB Tryz.prog 118 UN (a0,()) Ft r
abbrev abw:List (Bool×AK):=[(false,.ref),(true,.cons (.one (.int .i64)) (.one (.int .i64)))]
abbrev NB:List (Bool×AK):=[]
abbrev abx (a0:Option Nat) (a1:Int×Int) (H:HP) (K:HT NB→HP→Prop):Prop:=ae Tryz.prog 119 abw (a0,a1,()) NB H K
abbrev aby:List (Bool×AK):=[(false,.ref),(false,.one (.int .i64))]
abbrev NC:List (Bool×AK):=[(false,.one .any)]
abbrev ND (a0:Option Nat) (a1:Int) (H:HP) (K:HT NC→HP→Prop):Prop:=ae Tryz.prog 120 aby (a0,a1,()) NC H K
abbrev abz:List (Bool×AK):=[(false,.one .sl),(false,.one (.int .i64)),(false,.fn 102)]
abbrev NF:List (Bool×AK):=[]
abbrev abA (a0:Sl) (a1:Int) (a2:List Nat) (H:HP) (K:HT NF→HP→Prop):Prop:=ae Tryz.prog 121 abz (a0,a1,a2,()) NF H K
abbrev JP:List (Bool×AK):=[(false,.row .byte),(false,.row .byte)]
abbrev wW:List (Bool×AK):=[(true,aj)]
abbrev asz (a0:List UInt8) (a1:List UInt8) (H:HP) (K:HT wW→HP→Prop):Prop:=ae Tryz.prog 122 JP (a0,a1,()) wW H K
abbrev Bn (a0:List UInt8) (a1:List UInt8) (K:HT wW→Prop):Prop:=ck Tryz.prog 122 JP (a0,a1,()) wW K
abbrev ajf (a0:List UInt8) (a1:List UInt8) (r:HT wW):Prop:=bB Tryz.prog 122 JP (a0,a1,()) wW r
abbrev abB:List (Bool×AK):=[(false,.ref),(true,aM)]
abbrev NG:List (Bool×AK):=[(true,.cons (.one (.int .i64)) (.cons (.one .bool) (.cons (.row .byte) (.cons (.row aj) (.one (.int .u64))))))]
abbrev NH (a0:Option Nat) (a1:aO) (H:HP) (K:HT NG→HP→Prop):Prop:=ae Tryz.prog 123 abB (a0,a1,()) NG H K
abbrev abC:List (Bool×AK):=[(false,.ref),(true,aM)]
abbrev NI:List (Bool×AK):=[(true,.cons (.one (.int .i64)) (.cons (.one .bool) (.cons (.row .byte) (.cons (.row aj) (.one (.int .u64))))))]
abbrev abD (a0:Option Nat) (a1:aO) (H:HP) (K:HT NI→HP→Prop):Prop:=ae Tryz.prog 124 abC (a0,a1,()) NI H K
abbrev NJ:List (Bool×AK):=[(false,.row aj),(true,aj),(false,.one (.int .i64))]
abbrev z9:List (Bool×AK):=[(false,.row aj)]
abbrev asA (a0:List aq) (a1:aq) (a2:Int) (H:HP) (K:HT z9→HP→Prop):Prop:=ae Tryz.prog 125 NJ (a0,a1,a2,()) z9 H K
abbrev asB (a0:List aq) (a1:aq) (a2:Int) (K:HT z9→Prop):Prop:=ck Tryz.prog 125 NJ (a0,a1,a2,()) z9 K
abbrev ajg (a0:List aq) (a1:aq) (a2:Int) (r:HT z9):Prop:=bB Tryz.prog 125 NJ (a0,a1,a2,()) z9 r
abbrev UO:List (Bool×AK):=[(false,.ref),(false,.row .byte)]
abbrev Fu:List (Bool×AK):=[(true,.cons (.one (.int .i64)) (.cons (.one .bool) (.cons (.row .byte) (.cons (.row aj) (.one (.int .u64))))))]
abbrev ajh (a0:Option Nat) (a1:List UInt8) (H:HP) (K:HT Fu→HP→Prop):Prop:=ae Tryz.prog 126 UO (a0,a1,()) Fu H K
abbrev abE (a0:Option Nat) (a1:List UInt8) (H:HP) (K:HT Fu→Prop):Prop:=fS Tryz.prog 126 UO (a0,a1,()) Fu H K
abbrev abF:List (Bool×AK):=[(false,.row aj)]
abbrev NK:List (Bool×AK):=[(false,.own aj 56)]
abbrev UP (a0:List aq) (H:HP) (K:HT NK→HP→Prop):Prop:=ae Tryz.prog 127 abF (a0,()) NK H K
abbrev abG:List (Bool×AK):=[(false,.own aj 56),(false,.one (.int .i64)),(false,.row aj)]
abbrev UQ:List (Bool×AK):=[(false,.own aj 56)]
abbrev aji (a0:List aq) (a1:Int) (a2:List aq) (H:HP) (K:HT UQ→HP→Prop):Prop:=ae Tryz.prog 128 abG (a0,a1,a2,()) UQ H K
abbrev abH:List (Bool×AK):=[(false,.ref),(false,.one (.int .i64))]
abbrev NL:List (Bool×AK):=[(false,.row .byte),(false,.one (.int .i64)),(false,.one .bool)]
abbrev JQ (a0:Option Nat) (a1:Int) (H:HP) (K:HT NL→HP→Prop):Prop:=ae Tryz.prog 129 abH (a0,a1,()) NL H K
abbrev NM:List (Bool×AK):=[(false,.own (.row .byte) 22),(false,.one (.int .i64)),(false,.row (.row .byte))]
abbrev Fv:List (Bool×AK):=[(false,.own (.row .byte) 22)]
abbrev abI (a0:List (List UInt8)) (a1:Int) (a2:List (List UInt8)) (H:HP) (K:HT Fv→HP→Prop):Prop:=ae Tryz.prog 130 NM (a0,a1,a2,()) Fv H K
abbrev NN:List (Bool×AK):=[(false,.own (.one (.int .i64)) 3),(false,.one (.int .i64)),(false,.row (.one (.int .i64)))]
abbrev Fw:List (Bool×AK):=[(false,.own (.one (.int .i64)) 3)]
abbrev abJ (a0:List Int) (a1:Int) (a2:List Int) (H:HP) (K:HT Fw→HP→Prop):Prop:=ae Tryz.prog 131 NN (a0,a1,a2,()) Fw H K
abbrev ajj:List (Bool×AK):=[(false,.own aj 56),(false,.one (.int .i64)),(false,.one (.int .i64))]
abbrev abK:List (Bool×AK):=[(false,.own aj 56)]
abbrev asC (a0:List aq) (a1:Int) (a2:Int) (H:HP) (K:HT abK→HP→Prop):Prop:=ae Tryz.prog 132 ajj (a0,a1,a2,()) abK H K
abbrev abL:List (Bool×AK):=[(false,.ref),(false,.one (.int .i64)),(false,.one (.int .i64))]
abbrev NO:List (Bool×AK):=[(false,.ref)]
abbrev z_ (a0:Option Nat) (a1:Int) (a2:Int) (H:HP) (K:HT NO→HP→Prop):Prop:=ae Tryz.prog 133 abL (a0,a1,a2,()) NO H K
abbrev abM:List (Bool×AK):=[(false,.ref)]
abbrev NP:List (Bool×AK):=[]
abbrev NQ (a0:Option Nat) (H:HP) (K:HT NP→HP→Prop):Prop:=ae Tryz.prog 134 abM (a0,()) NP H K
abbrev abN:List (Bool×AK):=[(false,.ref)]
abbrev NR:List (Bool×AK):=[]
abbrev JR (a0:Option Nat) (H:HP) (K:HT NR→HP→Prop):Prop:=ae Tryz.prog 135 abN (a0,()) NR H K
abbrev abO:List (Bool×AK):=[(false,.ref)]
abbrev NS:List (Bool×AK):=[]
abbrev Bo (a0:Option Nat) (H:HP) (K:HT NS→HP→Prop):Prop:=ae Tryz.prog 136 abO (a0,()) NS H K
abbrev abP:List (Bool×AK):=[(false,.one .sl),(false,.one (.int .i64)),(false,.one (.int .i64)),(false,.fn 102)]
abbrev NT:List (Bool×AK):=[]
abbrev UR (a0:Sl) (a1:Int) (a2:Int) (a3:List Nat) (H:HP) (K:HT NT→HP→Prop):Prop:=ae Tryz.prog 137 abP (a0,a1,a2,a3,()) NT H K
abbrev abQ:List (Bool×AK):=[(false,.one .sl),(false,.one (.int .i64)),(false,.one (.int .i64)),(false,.one (.int .i64)),(false,.fn 102)]
abbrev NU:List (Bool×AK):=[]
abbrev JS (a0:Sl) (a1:Int) (a2:Int) (a3:Int) (a4:List Nat) (H:HP) (K:HT NU→HP→Prop):Prop:=ae Tryz.prog 138 abQ (a0,a1,a2,a3,a4,()) NU H K
abbrev abR:List (Bool×AK):=[(false,.ref)]
abbrev NV:List (Bool×AK):=[]
abbrev Aa (a0:Option Nat) (H:HP) (K:HT NV→HP→Prop):Prop:=ae Tryz.prog 145 abR (a0,()) NV H K
abbrev ajk:List (Bool×AK):=[(false,.own (.row .byte) 22),(false,.one (.int .i64)),(false,.one (.int .i64))]
abbrev abS:List (Bool×AK):=[(false,.own (.row .byte) 22)]
abbrev ajl (a0:List (List UInt8)) (a1:Int) (a2:Int) (H:HP) (K:HT abS→HP→Prop):Prop:=ae Tryz.prog 146 ajk (a0,a1,a2,()) abS H K
abbrev ajm:List (Bool×AK):=[(false,.own (.one (.int .i64)) 3),(false,.one (.int .i64)),(false,.one (.int .i64))]
abbrev abT:List (Bool×AK):=[(false,.own (.one (.int .i64)) 3)]
abbrev ajn (a0:List Int) (a1:Int) (a2:Int) (H:HP) (K:HT abT→HP→Prop):Prop:=ae Tryz.prog 147 ajm (a0,a1,a2,()) abT H K
abbrev abU:List (Bool×AK):=[(false,.one .sl),(false,.one (.int .i64)),(false,.one (.int .i64)),(false,.one (.int .i64)),(false,.fn 102)]
abbrev NW:List (Bool×AK):=[]
abbrev abV (a0:Sl) (a1:Int) (a2:Int) (a3:Int) (a4:List Nat) (H:HP) (K:HT NW→HP→Prop):Prop:=ae Tryz.prog 148 abU (a0,a1,a2,a3,a4,()) NW H K
abbrev abW:List (Bool×AK):=[(false,.one .sl),(false,.one (.int .i64)),(false,.one (.int .i64)),(false,.one (.int .i64)),(false,.fn 102)]
abbrev NX:List (Bool×AK):=[]
abbrev NY (a0:Sl) (a1:Int) (a2:Int) (a3:Int) (a4:List Nat) (H:HP) (K:HT NX→HP→Prop):Prop:=ae Tryz.prog 152 abW (a0,a1,a2,a3,a4,()) NX H K
set_option maxRecDepth 100000
set_option maxHeartbeats 0
def s8:TypeId→Option AK
 |133=>some ((.cons (.own (.cons (.one .bool) (.cons (.row aj) (.cons (.row (.row .byte)) (.cons (.row (.one (.int .i64))) (.one (.int .i64)))))) 90) (.cons (.own (.one .bool) 4) (.own (.one (.int .i64)) 3))))
 |92=>some ((.cons .ref (.cons (.one (.int .i64)) (.cons (.one (.int .i64)) (.one (.int .i64))))))
 |224=>some ((.cons .ref (.cons (.cons (.one .bool) (.cons (.row aj) (.cons (.row (.row .byte)) (.cons (.row (.one (.int .i64))) (.one (.int .i64)))))) (.cons (.cons (.one .bool) (.cons (.row aj) (.cons (.row (.row .byte)) (.cons (.row (.one (.int .i64))) (.one (.int .i64)))))) (.cons (.cons (.one .bool) (.cons (.row aj) (.cons (.row (.row .byte)) (.cons (.row (.one (.int .i64))) (.one (.int .i64)))))) (.cons (.one (.int .i64)) (.cons (.one (.int .i64)) (.cons (.one (.int .i64)) (.one (.int .i64))))))))))
 |210=>some ((.cons .ref (.cons (.row .byte) (.cons (.row .byte) k_))))
 |192=>some (k_)
 |95=>some ((.one .sl))
 |3=>some ((.one (.int .i64)))
 |37=>some (aM)
 |101=>some (iP)
 |97=>some (j4)
 |77=>some (ik)
 |_=>none
def s9:FuncId→Option oW
 |4=>some ⟨P4,R4,2⟩
 |5=>some ⟨P5,R5,2⟩
 |6=>some ⟨P6,R6,0⟩
 |7=>some ⟨P7,R7,0⟩
 |8=>some ⟨P8,R8,2⟩
 |9=>some ⟨P9,R9,2⟩
 |10=>some ⟨P10,MZ,0⟩
 |11=>some ⟨P11,R11,2⟩
 |12=>some ⟨P12,M0,0⟩
 |13=>some ⟨P13,R13,2⟩
 |14=>some ⟨P14,M1,0⟩
 |15=>some ⟨P15,M3,0⟩
 |_=>none
theorem og:Tryz.prog.follows .mixedOrders=true:=by kernel_rfl
def A4 (H:HP) (K:HT R4→HP→Prop):Prop:=
 Q15 fun(x1:T15)=>C5 0 ([],[]) (x1.1.1,x1.1.2.1,x1.1.2.2.1,x1.1.2.2.2.1,x1.1.2.2.2.2.1,x1.1.2.2.2.2.2) H fun(x2:T5) H3=>Q15 fun(x4:T15)=>C5 (-1) ([],[]) (x4.1.1,x4.1.2.1,x4.1.2.2.1,x4.1.2.2.2.1,x4.1.2.2.2.2.1,x4.1.2.2.2.2.2) H3 fun(x5:T5) H6=>af (Option.isNone x2.1) (K (false,()) H6) (((cB x2.2.1:Bool)=true)∧(af (! (bj x2.2.1)) (K (false,()) H6) (Qy 97 fun(x7:UInt8)=>C8 x2.1 (0,0,2,[x7],[],[],[],0) H6 fun(x8:T8) H9=>C9 x2.1 0 0 H9 fun(bp:T9) oX=>C9 x2.1 0 0 oX fun(bL:T9) pA=>C9 x2.1 0 0 pA fun(l_:T9) H15=>C9 x2.1 0 0 H15 fun(sO:T9) H17=>C9 x2.1 0 0 H17 fun(d_:T9) AI=>Qz Tryz.prog x5.2.1 (.iface 62 (.int .i64 1)) fun(b20:Bool)=>af b20 (((cB x8.2.1:Bool)=true)∧(af (bj x8.2.1) (af ((bp.1:Int)==4) (af ((bL.1:Int)==5) (af ((l_.1:Int)==1) (aP l_.2.1.length fun n21=>af (n21==1) (af ((sO.1:Int)==2) (af ((d_.1:Int)==0) (VO x2.1 AI fun(kK:T11) El=>aP kK.1.length fun n24=>K (n24==1,()) El) (K (false,()) AI)) (K (false,()) AI)) (K (false,()) AI)) (K (false,()) AI)) (K (false,()) AI)) (K (false,()) AI)) (K (false,()) AI))) (K (false,()) AI))))
theorem afj (H K) (h:A4 H K):C4 H K:=
 aa og Tryz.func4 (Eq.mp (by kernel_rfl:A4 H K=bq ⟨Tryz.prog,s9,s8,[],eD⟩ ⟨[(2,.one .any),(4,.one .any),(6,.one .any),(8,.row (.cons aM dH)),(9,.one .any),(11,.row (.cons aM dH)),(12,.one .any),(14,.row (.cons aM dH)),(15,.one .any),(17,.row (.cons aM dH)),(18,.one .any),(20,.row (.cons aM dH)),(21,.one .any),(27,.one .any),(33,.one .any),(37,.one .any),(42,.row .byte),(43,.row .byte),(47,.one .any),(52,.row (.cons aM dH)),(53,.one .any),(58,.row (.cons aM dH)),(59,.one .any),(64,.row (.cons aM dH)),(65,.one .any),(70,.row (.cons aM dH)),(71,.one .any),(76,.row (.cons aM dH)),(77,.one .any),(78,.one .any),(79,.one .any),(82,.one .any),(98,.row (.cons aM dH)),(112,.row aj)],[]⟩ (.seq .n (.seq .n (.seq .n (.seq (.seq .n (.cond (.seq .n .n) .n)) (.seq .n (.seq .n (.seq .n (.seq .n (.seq .n (.seq .n (.seq .n .n))))))))))) Tryz.f4 P4 (()) R4 H K) h)
def A7 (a0:Int) (a1:Int) (H:HP) (K:HT R7→HP→Prop):Prop:=
 bE (V:=(Int×Int×Unit)×Unit) (fun x1 H2=>((x1.1.2.1:Int)≠0)∧(K (Int.tmod x1.1.1 x1.1.2.1,()) H2)) fun B3=>af (decide (a0<0)) (B3 ((IntKind.i64.wrap (0 - (IntKind.i64.wrap (a0+1))),a1,()),()) H) (B3 ((a0,a1,()),()) H)
theorem afk (a0 a1 H K) (h:A7 a0 a1 H K):C7 a0 a1 H K:=
 aa og Tryz.func7 (Eq.mp (by kernel_rfl:A7 a0 a1 H K=bq ⟨Tryz.prog,s9,s8,[],eD⟩ ⟨[],[]⟩ (.seq .n (.join [(0,.v (.one (.int .i64))),(1,.v (.one (.int .i64)))] [] (.seq .n (.cond .n .n)) (.seq .n .n))) Tryz.f7 P7 (a0,a1,()) R7 H K) h)
theorem amo (a0 a1) {r} (h:∀H K,K r H→A7 a0 a1 H K):S7 a0 a1 r:=fun H K hk=>afk a0 a1 H K (h H K hk)
def A15 (H:HP) (K:HT M3→HP→Prop):Prop:=
 K ((2,3,3,9,4,3),()) H
theorem XW (H K) (h:A15 H K):C15 H K:=
 aa og Tryz.func15 (Eq.mp (by kernel_rfl:A15 H K=bq ⟨Tryz.prog,s9,s8,[],eD⟩ ⟨[],[]⟩ (.seq .n (.seq .n .n)) Tryz.f15 P15 (()) M3 H K) h)
theorem afl {r} (h:∀H K,K r H→A15 H K):ZE r:=fun H K hk=>XW H K (h H K hk)
def A3 (a0:aq) (a1:tCF) (a2:List (Int×Int×Int×Int×Int×Int×Int×List UInt8×List UInt8×List UInt8×List UInt8×Int)) (H:HP) (K:HT R3→HP→Prop):Prop:=
 C4 H fun(x1:T4) H2=>aP a0.1.length fun n3=>af (decide (n3>100)) (K (x1.1,()) H2) (aP a0.2.length fun n4=>af (decide (n4>100)) (K (x1.1,()) H2) (aP a2.length fun n5=>af (decide (n5>200)) (K (x1.1,()) H2) (C5 3 (a0.1,a0.2) (a1.1,a1.2.1,a1.2.2.1,a1.2.2.2.1,a1.2.2.2.2.1,a1.2.2.2.2.2) H2 fun(x6:T5) H7=>af (Option.isNone x6.1) (af x1.1 (K (Option.isNone x6.1,()) H7) (K (false,()) H7)) (((cB x6.2.1:Bool)=true)∧(af (! (bj x6.2.1)) (af x1.1 (K (Option.isNone x6.1,()) H7) (K (false,()) H7)) (a9 (V:=((List (Int×Int×Int×Int×Int×Int×Int×List UInt8×List UInt8×List UInt8×List UInt8×Int))×Unit×Unit×Bool×Option Nat×(List (aO×Int×Bool×List UInt8×(List aq)×Int))×List Int×Int×Int×Int×Int×Unit)×(List UInt8×List UInt8×Unit)×(Int×Int×Int×Int×Int×Int×Unit)×Unit) ((a2,(),(),x1.1,x6.1,[],[],0,(-1),0,0,()),(a0.1,a0.2,()),(a1.1,a1.2.1,a1.2.2.1,a1.2.2.2.1,a1.2.2.2.2.1,a1.2.2.2.2.2,()),()) H7 fun x8 H9 En=>aP x8.1.1.length fun F8=>af (decide (x8.1.2.2.2.2.2.2.2.2.2.2.1<F8)) (bT x8.1.1 x8.1.2.2.2.2.2.2.2.2.2.2.1 fun(bL:Int×Int×Int×Int×Int×Int×Int×List UInt8×List UInt8×List UInt8×List UInt8×Int)=>Q6 (bL.2.2.2.2.1,bL.2.2.2.2.2.1,bL.2.2.2.2.2.2.1,bL.2.2.2.2.2.2.2.1,bL.2.2.2.2.2.2.2.2.1,bL.2.2.2.2.2.2.2.2.2.1,bL.2.2.2.2.2.2.2.2.2.2.1,bL.2.2.2.2.2.2.2.2.2.2.2) fun(fG:T6)=>af (! fG.1) (K (x8.1.2.2.2.1,()) H9) (Q7 bL.1 3 fun(l_:T7)=>af ((l_.1:Int)==0) (C8 x8.1.2.2.2.2.1 (bL.2.2.2.2.1,x8.1.2.2.2.2.2.2.2.2.2.2.1,bL.2.2.2.2.2.2.1,bL.2.2.2.2.2.2.2.1,bL.2.2.2.2.2.2.2.2.1,bL.2.2.2.2.2.2.2.2.2.1,bL.2.2.2.2.2.2.2.2.2.2.1,bL.2.2.2.2.2.2.2.2.2.2.2) H9 fun(dG:T8) xR=>((cB dG.2.1:Bool)=true)∧(af (bj dG.2.1) (cR x8.1.2.2.2.2.2.1.length 1 200 (cR x8.1.2.2.2.2.2.2.1.length 1 8 (En ((x8.1.1,(),(),x8.1.2.2.2.1,x8.1.2.2.2.2.1,x8.1.2.2.2.2.2.1++[((bL.2.2.2.2.1,x8.1.2.2.2.2.2.2.2.2.2.2.1,bL.2.2.2.2.2.2.1,bL.2.2.2.2.2.2.2.1,bL.2.2.2.2.2.2.2.2.1,bL.2.2.2.2.2.2.2.2.2.1,bL.2.2.2.2.2.2.2.2.2.2.1,bL.2.2.2.2.2.2.2.2.2.2.2),(-1),false,[],[],0)],x8.1.2.2.2.2.2.2.1++[dG.1],x8.1.2.2.2.2.2.2.2.1,x8.1.2.2.2.2.2.2.2.2.1,x8.1.2.2.2.2.2.2.2.2.2.1,IntKind.i64.wrap (x8.1.2.2.2.2.2.2.2.2.2.2.1+1),()),(x8.2.1.1,x8.2.1.2.1,()),(x8.2.2.1.1,x8.2.2.1.2.1,x8.2.2.1.2.2.1,x8.2.2.1.2.2.2.1,x8.2.2.1.2.2.2.2.1,x8.2.2.1.2.2.2.2.2.1,()),()) xR))) (En ((x8.1.1,(),(),x8.1.2.2.2.1,x8.1.2.2.2.2.1,x8.1.2.2.2.2.2.1,x8.1.2.2.2.2.2.2.1,x8.1.2.2.2.2.2.2.2.1,x8.1.2.2.2.2.2.2.2.2.1,x8.1.2.2.2.2.2.2.2.2.2.1,IntKind.i64.wrap (x8.1.2.2.2.2.2.2.2.2.2.2.1+1),()),(x8.2.1.1,x8.2.1.2.1,()),(x8.2.2.1.1,x8.2.2.1.2.1,x8.2.2.1.2.2.1,x8.2.2.1.2.2.2.1,x8.2.2.1.2.2.2.2.1,x8.2.2.1.2.2.2.2.2.1,()),()) xR))) (Q7 bL.2.2.2.1 3 fun(gO:T7)=>Q7 bL.2.1 3 fun(d_:T7)=>C9 x8.1.2.2.2.2.1 d_.1 (IntKind.i64.wrap (x8.1.2.2.2.2.2.2.2.1+gO.1)) H9 fun(c8:T9) uR=>af (decide (x8.1.2.2.2.2.2.2.2.2.1≥0)) (af ((x8.1.2.2.2.2.2.2.2.2.1:Int)!=d_.1) (af (decide ((IntKind.i64.wrap (x8.1.2.2.2.2.2.2.2.1+gO.1))<x8.1.2.2.2.2.2.2.2.2.2.1)) (((cB c8.2.2.1:Bool)=true)∧(af (bj c8.2.2.1) (K (false,()) uR) (bE (V:=((List (Int×Int×Int×Int×Int×Int×Int×List UInt8×List UInt8×List UInt8×List UInt8×Int))×Unit×Unit×Bool×Option Nat×(List (aO×Int×Bool×List UInt8×(List aq)×Int))×List Int×Int×Int×Int×Int×(List (aO×Int×Bool×List UInt8×(List aq)×Int))×Unit)×(List UInt8×List UInt8×Unit)×(Int×Int×Int×Int×Int×Int×Unit)×Unit) (fun oZ Wf=>a9 (V:=((List (Int×Int×Int×Int×Int×Int×Int×List UInt8×List UInt8×List UInt8×List UInt8×Int))×Unit×Unit×Bool×Option Nat×(List (aO×Int×Bool×List UInt8×(List aq)×Int))×List Int×Int×Int×Int×Int×(List (aO×Int×Bool×List UInt8×(List aq)×Int))×Int×Unit)×(List UInt8×List UInt8×Unit)×(Int×Int×Int×Int×Int×Int×Unit)×Unit) ((oZ.1.1,(),(),oZ.1.2.2.2.1,oZ.1.2.2.2.2.1,oZ.1.2.2.2.2.2.1,oZ.1.2.2.2.2.2.2.1,oZ.1.2.2.2.2.2.2.2.1,oZ.1.2.2.2.2.2.2.2.2.1,oZ.1.2.2.2.2.2.2.2.2.2.1,oZ.1.2.2.2.2.2.2.2.2.2.2.1,oZ.1.2.2.2.2.2.2.2.2.2.2.2.1,0,()),(oZ.2.1.1,oZ.2.1.2.1,()),(oZ.2.2.1.1,oZ.2.2.1.2.1,oZ.2.2.1.2.2.1,oZ.2.2.1.2.2.2.1,oZ.2.2.1.2.2.2.2.1,oZ.2.2.1.2.2.2.2.2.1,()),()) Wf fun gw Ek B25=>aP gw.1.2.2.2.2.2.2.2.2.2.2.2.1.length fun n26=>af (decide (gw.1.2.2.2.2.2.2.2.2.2.2.2.2.1<n26)) (a9 (V:=((List (Int×Int×Int×Int×Int×Int×Int×List UInt8×List UInt8×List UInt8×List UInt8×Int))×Unit×Unit×Bool×Option Nat×(List (aO×Int×Bool×List UInt8×(List aq)×Int))×List Int×Int×Int×Int×Int×(List (aO×Int×Bool×List UInt8×(List aq)×Int))×Int×Int×Int×Unit)×(List UInt8×List UInt8×Unit)×(Int×Int×Int×Int×Int×Int×Unit)×Unit) ((gw.1.1,(),(),gw.1.2.2.2.1,gw.1.2.2.2.2.1,gw.1.2.2.2.2.2.1,gw.1.2.2.2.2.2.2.1,gw.1.2.2.2.2.2.2.2.1,gw.1.2.2.2.2.2.2.2.2.1,gw.1.2.2.2.2.2.2.2.2.2.1,gw.1.2.2.2.2.2.2.2.2.2.2.1,gw.1.2.2.2.2.2.2.2.2.2.2.2.1,gw.1.2.2.2.2.2.2.2.2.2.2.2.2.1,0,0,()),(gw.2.1.1,gw.2.1.2.1,()),(gw.2.2.1.1,gw.2.2.1.2.1,gw.2.2.1.2.2.1,gw.2.2.1.2.2.2.1,gw.2.2.1.2.2.2.2.1,gw.2.2.1.2.2.2.2.2.1,()),()) Ek fun cr IZ B29=>aP cr.1.2.2.2.2.2.1.length fun n30=>af (decide (cr.1.2.2.2.2.2.2.2.2.2.2.2.2.2.2.1<n30)) (cS cr.1.2.2.2.2.2.2.2.2.2.2.2.2.2.2.1 cr.1.2.2.2.2.2.1.length fun i31=>gN cr.1.2.2.2.2.2.1 i31 fun(N1:aO×Int×Bool×List UInt8×(List aq)×Int)=>bT cr.1.2.2.2.2.2.2.2.2.2.2.2.1 cr.1.2.2.2.2.2.2.2.2.2.2.2.2.1 fun(ZS:aO×Int×Bool×List UInt8×(List aq)×Int)=>af ((N1.1.2.1:Int)==ZS.1.2.1) (cS cr.1.2.2.2.2.2.2.2.2.2.2.2.2.2.2.1 cr.1.2.2.2.2.2.1.length fun i34=>gN cr.1.2.2.2.2.2.1 i34 fun(x35:aO×Int×Bool×List UInt8×(List aq)×Int)=>af ((x35.2.1:Int)!=(-1)) (K (false,()) IZ) (cS cr.1.2.2.2.2.2.2.2.2.2.2.2.2.2.2.1 cr.1.2.2.2.2.2.1.length fun i36=>gN cr.1.2.2.2.2.2.1 i36 fun(Lt:aO×Int×Bool×List UInt8×(List aq)×Int)=>bT cr.1.2.2.2.2.2.2.2.2.2.2.2.1 cr.1.2.2.2.2.2.2.2.2.2.2.2.2.1 fun(F_:aO×Int×Bool×List UInt8×(List aq)×Int)=>Q10 (Lt.1.1,Lt.1.2.1,Lt.1.2.2.1,Lt.1.2.2.2.1,Lt.1.2.2.2.2.1,Lt.1.2.2.2.2.2.1,Lt.1.2.2.2.2.2.2.1,Lt.1.2.2.2.2.2.2.2) (F_.1.1,F_.1.2.1,F_.1.2.2.1,F_.1.2.2.2.1,F_.1.2.2.2.2.1,F_.1.2.2.2.2.2.1,F_.1.2.2.2.2.2.2.1,F_.1.2.2.2.2.2.2.2) fun(x39:T10)=>af (! x39.1) (K (false,()) IZ) (bT cr.1.2.2.2.2.2.2.2.2.2.2.2.1 cr.1.2.2.2.2.2.2.2.2.2.2.2.2.1 fun(oY:aO×Int×Bool×List UInt8×(List aq)×Int)=>cS cr.1.2.2.2.2.2.2.2.2.2.2.2.2.2.2.1 cr.1.2.2.2.2.2.1.length fun i41=>gN cr.1.2.2.2.2.2.1 i41 fun(N4:aO×Int×Bool×List UInt8×(List aq)×Int)=>B29 ((cr.1.1,(),(),cr.1.2.2.2.1,cr.1.2.2.2.2.1,List.set cr.1.2.2.2.2.2.1 i41 (N4.1,oY.2.1,oY.2.2.1,oY.2.2.2.1,oY.2.2.2.2.1,oY.2.2.2.2.2),cr.1.2.2.2.2.2.2.1,cr.1.2.2.2.2.2.2.2.1,cr.1.2.2.2.2.2.2.2.2.1,cr.1.2.2.2.2.2.2.2.2.2.1,cr.1.2.2.2.2.2.2.2.2.2.2.1,cr.1.2.2.2.2.2.2.2.2.2.2.2.1,cr.1.2.2.2.2.2.2.2.2.2.2.2.2.1,IntKind.i64.wrap (cr.1.2.2.2.2.2.2.2.2.2.2.2.2.2.1+1),IntKind.i64.wrap (cr.1.2.2.2.2.2.2.2.2.2.2.2.2.2.2.1+1),()),(cr.2.1.1,cr.2.1.2.1,()),(cr.2.2.1.1,cr.2.2.1.2.1,cr.2.2.1.2.2.1,cr.2.2.1.2.2.2.1,cr.2.2.1.2.2.2.2.1,cr.2.2.1.2.2.2.2.2.1,()),()) IZ))) (B29 ((cr.1.1,(),(),cr.1.2.2.2.1,cr.1.2.2.2.2.1,cr.1.2.2.2.2.2.1,cr.1.2.2.2.2.2.2.1,cr.1.2.2.2.2.2.2.2.1,cr.1.2.2.2.2.2.2.2.2.1,cr.1.2.2.2.2.2.2.2.2.2.1,cr.1.2.2.2.2.2.2.2.2.2.2.1,cr.1.2.2.2.2.2.2.2.2.2.2.2.1,cr.1.2.2.2.2.2.2.2.2.2.2.2.2.1,cr.1.2.2.2.2.2.2.2.2.2.2.2.2.2.1,IntKind.i64.wrap (cr.1.2.2.2.2.2.2.2.2.2.2.2.2.2.2.1+1),()),(cr.2.1.1,cr.2.1.2.1,()),(cr.2.2.1.1,cr.2.2.1.2.1,cr.2.2.1.2.2.1,cr.2.2.1.2.2.2.1,cr.2.2.1.2.2.2.2.1,cr.2.2.1.2.2.2.2.2.1,()),()) IZ)) (af ((cr.1.2.2.2.2.2.2.2.2.2.2.2.2.2.1:Int)!=1) (K (false,()) IZ) (B25 ((cr.1.1,(),(),cr.1.2.2.2.1,cr.1.2.2.2.2.1,cr.1.2.2.2.2.2.1,cr.1.2.2.2.2.2.2.1,cr.1.2.2.2.2.2.2.2.1,cr.1.2.2.2.2.2.2.2.2.1,cr.1.2.2.2.2.2.2.2.2.2.1,cr.1.2.2.2.2.2.2.2.2.2.2.1,cr.1.2.2.2.2.2.2.2.2.2.2.2.1,IntKind.i64.wrap (cr.1.2.2.2.2.2.2.2.2.2.2.2.2.1+1),()),(cr.2.1.1,cr.2.1.2.1,()),(cr.2.2.1.1,cr.2.2.1.2.1,cr.2.2.1.2.2.1,cr.2.2.1.2.2.2.1,cr.2.2.1.2.2.2.2.1,cr.2.2.1.2.2.2.2.2.1,()),()) IZ))) (VO gw.1.2.2.2.2.1 Ek fun(IX:T11) Wi=>a9 (V:=((List (Int×Int×Int×Int×Int×Int×Int×List UInt8×List UInt8×List UInt8×List UInt8×Int))×Unit×Unit×Bool×Option Nat×(List (aO×Int×Bool×List UInt8×(List aq)×Int))×List Int×Int×Int×Int×Int×(List aq)×Int×Unit)×(List UInt8×List UInt8×Unit)×(Int×Int×Int×Int×Int×Int×Unit)×Unit) ((gw.1.1,(),(),gw.1.2.2.2.1,gw.1.2.2.2.2.1,gw.1.2.2.2.2.2.1,gw.1.2.2.2.2.2.2.1,gw.1.2.2.2.2.2.2.2.1,gw.1.2.2.2.2.2.2.2.2.1,gw.1.2.2.2.2.2.2.2.2.2.1,gw.1.2.2.2.2.2.2.2.2.2.2.1,IX.1,0,()),(gw.2.1.1,gw.2.1.2.1,()),(gw.2.2.1.1,gw.2.2.1.2.1,gw.2.2.1.2.2.1,gw.2.2.1.2.2.2.1,gw.2.2.1.2.2.2.2.1,gw.2.2.1.2.2.2.2.2.1,()),()) Wi fun iw H46 B47=>aP iw.1.2.2.2.2.2.2.2.2.2.2.2.1.length fun n48=>af (decide (iw.1.2.2.2.2.2.2.2.2.2.2.2.2.1<n48)) (bT iw.1.2.2.2.2.2.2.2.2.2.2.2.1 iw.1.2.2.2.2.2.2.2.2.2.2.2.2.1 fun(l49:aq)=>Q12 (iw.2.1.1,iw.2.1.2.1) l49.1 fun(x50:T12)=>af (! x50.1) (K (false,()) H46) (B47 ((iw.1.1,(),(),iw.1.2.2.2.1,iw.1.2.2.2.2.1,iw.1.2.2.2.2.2.1,iw.1.2.2.2.2.2.2.1,iw.1.2.2.2.2.2.2.2.1,iw.1.2.2.2.2.2.2.2.2.1,iw.1.2.2.2.2.2.2.2.2.2.1,iw.1.2.2.2.2.2.2.2.2.2.2.1,iw.1.2.2.2.2.2.2.2.2.2.2.2.1,IntKind.i64.wrap (iw.1.2.2.2.2.2.2.2.2.2.2.2.2.1+1),()),(iw.2.1.1,iw.2.1.2.1,()),(iw.2.2.1.1,iw.2.2.1.2.1,iw.2.2.1.2.2.1,iw.2.2.1.2.2.2.1,iw.2.2.1.2.2.2.2.1,iw.2.2.1.2.2.2.2.2.1,()),()) H46)) (En ((iw.1.1,(),(),iw.1.2.2.2.1,iw.1.2.2.2.2.1,iw.1.2.2.2.2.2.1,iw.1.2.2.2.2.2.2.1,iw.1.2.2.2.2.2.2.2.1,iw.1.2.2.2.2.2.2.2.2.1,iw.1.2.2.2.2.2.2.2.2.2.1,IntKind.i64.wrap (iw.1.2.2.2.2.2.2.2.2.2.2.1+1),()),(iw.2.1.1,iw.2.1.2.1,()),(iw.2.2.1.1,iw.2.2.1.2.1,iw.2.2.1.2.2.1,iw.2.2.1.2.2.2.1,iw.2.2.1.2.2.2.2.1,iw.2.2.1.2.2.2.2.2.1,()),()) H46))) fun B51=>((cB c8.2.2.1:Bool)=true)∧(af (bj c8.2.2.1) (af ((c8.1:Int)==0) (B51 ((x8.1.1,(),(),x8.1.2.2.2.1,x8.1.2.2.2.2.1,x8.1.2.2.2.2.2.1,x8.1.2.2.2.2.2.2.1,IntKind.i64.wrap (x8.1.2.2.2.2.2.2.2.1+gO.1),(-1),IntKind.i64.wrap ((IntKind.i64.wrap (x8.1.2.2.2.2.2.2.2.1+gO.1))+x8.2.2.1.2.2.2.2.1),x8.1.2.2.2.2.2.2.2.2.2.2.1,c8.2.1,()),(x8.2.1.1,x8.2.1.2.1,()),(x8.2.2.1.1,x8.2.2.1.2.1,x8.2.2.1.2.2.1,x8.2.2.1.2.2.2.1,x8.2.2.1.2.2.2.2.1,x8.2.2.1.2.2.2.2.2.1,()),()) uR) (B51 ((x8.1.1,(),(),x8.1.2.2.2.1,x8.1.2.2.2.2.1,x8.1.2.2.2.2.2.1,x8.1.2.2.2.2.2.2.1,IntKind.i64.wrap (x8.1.2.2.2.2.2.2.2.1+gO.1),d_.1,IntKind.i64.wrap ((IntKind.i64.wrap (x8.1.2.2.2.2.2.2.2.1+gO.1))+x8.2.2.1.2.2.2.2.1),x8.1.2.2.2.2.2.2.2.2.2.2.1,c8.2.1,()),(x8.2.1.1,x8.2.1.2.1,()),(x8.2.2.1.1,x8.2.2.1.2.1,x8.2.2.1.2.2.1,x8.2.2.1.2.2.2.1,x8.2.2.1.2.2.2.2.1,x8.2.2.1.2.2.2.2.2.1,()),()) uR)) (B51 ((x8.1.1,(),(),x8.1.2.2.2.1,x8.1.2.2.2.2.1,x8.1.2.2.2.2.2.1,x8.1.2.2.2.2.2.2.1,IntKind.i64.wrap (x8.1.2.2.2.2.2.2.2.1+gO.1),x8.1.2.2.2.2.2.2.2.2.1,x8.1.2.2.2.2.2.2.2.2.2.1,x8.1.2.2.2.2.2.2.2.2.2.2.1,c8.2.1,()),(x8.2.1.1,x8.2.1.2.1,()),(x8.2.2.1.1,x8.2.2.1.2.1,x8.2.2.1.2.2.1,x8.2.2.1.2.2.2.1,x8.2.2.1.2.2.2.2.1,x8.2.2.1.2.2.2.2.2.1,()),()) uR))))) (bE (V:=((List (Int×Int×Int×Int×Int×Int×Int×List UInt8×List UInt8×List UInt8×List UInt8×Int))×Unit×Unit×Bool×Option Nat×(List (aO×Int×Bool×List UInt8×(List aq)×Int))×List Int×Int×Int×Int×Int×(List (aO×Int×Bool×List UInt8×(List aq)×Int))×Unit)×(List UInt8×List UInt8×Unit)×(Int×Int×Int×Int×Int×Int×Unit)×Unit) (fun tM H53=>a9 (V:=((List (Int×Int×Int×Int×Int×Int×Int×List UInt8×List UInt8×List UInt8×List UInt8×Int))×Unit×Unit×Bool×Option Nat×(List (aO×Int×Bool×List UInt8×(List aq)×Int))×List Int×Int×Int×Int×Int×(List (aO×Int×Bool×List UInt8×(List aq)×Int))×Int×Unit)×(List UInt8×List UInt8×Unit)×(Int×Int×Int×Int×Int×Int×Unit)×Unit) ((tM.1.1,(),(),tM.1.2.2.2.1,tM.1.2.2.2.2.1,tM.1.2.2.2.2.2.1,tM.1.2.2.2.2.2.2.1,tM.1.2.2.2.2.2.2.2.1,tM.1.2.2.2.2.2.2.2.2.1,tM.1.2.2.2.2.2.2.2.2.2.1,tM.1.2.2.2.2.2.2.2.2.2.2.1,tM.1.2.2.2.2.2.2.2.2.2.2.2.1,0,()),(tM.2.1.1,tM.2.1.2.1,()),(tM.2.2.1.1,tM.2.2.1.2.1,tM.2.2.1.2.2.1,tM.2.2.1.2.2.2.1,tM.2.2.1.2.2.2.2.1,tM.2.2.1.2.2.2.2.2.1,()),()) H53 fun iQ H55 B56=>aP iQ.1.2.2.2.2.2.2.2.2.2.2.2.1.length fun n57=>af (decide (iQ.1.2.2.2.2.2.2.2.2.2.2.2.2.1<n57)) (a9 (V:=((List (Int×Int×Int×Int×Int×Int×Int×List UInt8×List UInt8×List UInt8×List UInt8×Int))×Unit×Unit×Bool×Option Nat×(List (aO×Int×Bool×List UInt8×(List aq)×Int))×List Int×Int×Int×Int×Int×(List (aO×Int×Bool×List UInt8×(List aq)×Int))×Int×Int×Int×Unit)×(List UInt8×List UInt8×Unit)×(Int×Int×Int×Int×Int×Int×Unit)×Unit) ((iQ.1.1,(),(),iQ.1.2.2.2.1,iQ.1.2.2.2.2.1,iQ.1.2.2.2.2.2.1,iQ.1.2.2.2.2.2.2.1,iQ.1.2.2.2.2.2.2.2.1,iQ.1.2.2.2.2.2.2.2.2.1,iQ.1.2.2.2.2.2.2.2.2.2.1,iQ.1.2.2.2.2.2.2.2.2.2.2.1,iQ.1.2.2.2.2.2.2.2.2.2.2.2.1,iQ.1.2.2.2.2.2.2.2.2.2.2.2.2.1,0,0,()),(iQ.2.1.1,iQ.2.1.2.1,()),(iQ.2.2.1.1,iQ.2.2.1.2.1,iQ.2.2.1.2.2.1,iQ.2.2.1.2.2.2.1,iQ.2.2.1.2.2.2.2.1,iQ.2.2.1.2.2.2.2.2.1,()),()) H55 fun c9 ZT B60=>aP c9.1.2.2.2.2.2.1.length fun n61=>af (decide (c9.1.2.2.2.2.2.2.2.2.2.2.2.2.2.2.1<n61)) (cS c9.1.2.2.2.2.2.2.2.2.2.2.2.2.2.2.1 c9.1.2.2.2.2.2.1.length fun i62=>gN c9.1.2.2.2.2.2.1 i62 fun(x63:aO×Int×Bool×List UInt8×(List aq)×Int)=>bT c9.1.2.2.2.2.2.2.2.2.2.2.2.1 c9.1.2.2.2.2.2.2.2.2.2.2.2.2.1 fun(zf:aO×Int×Bool×List UInt8×(List aq)×Int)=>af ((x63.1.2.1:Int)==zf.1.2.1) (cS c9.1.2.2.2.2.2.2.2.2.2.2.2.2.2.2.1 c9.1.2.2.2.2.2.1.length fun i65=>gN c9.1.2.2.2.2.2.1 i65 fun(Rb:aO×Int×Bool×List UInt8×(List aq)×Int)=>af ((Rb.2.1:Int)!=(-1)) (K (false,()) ZT) (cS c9.1.2.2.2.2.2.2.2.2.2.2.2.2.2.2.1 c9.1.2.2.2.2.2.1.length fun i67=>gN c9.1.2.2.2.2.2.1 i67 fun(N5:aO×Int×Bool×List UInt8×(List aq)×Int)=>bT c9.1.2.2.2.2.2.2.2.2.2.2.2.1 c9.1.2.2.2.2.2.2.2.2.2.2.2.2.1 fun(Rc:aO×Int×Bool×List UInt8×(List aq)×Int)=>Q10 (N5.1.1,N5.1.2.1,N5.1.2.2.1,N5.1.2.2.2.1,N5.1.2.2.2.2.1,N5.1.2.2.2.2.2.1,N5.1.2.2.2.2.2.2.1,N5.1.2.2.2.2.2.2.2) (Rc.1.1,Rc.1.2.1,Rc.1.2.2.1,Rc.1.2.2.2.1,Rc.1.2.2.2.2.1,Rc.1.2.2.2.2.2.1,Rc.1.2.2.2.2.2.2.1,Rc.1.2.2.2.2.2.2.2) fun(x70:T10)=>af (! x70.1) (K (false,()) ZT) (bT c9.1.2.2.2.2.2.2.2.2.2.2.2.1 c9.1.2.2.2.2.2.2.2.2.2.2.2.2.1 fun(x71:aO×Int×Bool×List UInt8×(List aq)×Int)=>cS c9.1.2.2.2.2.2.2.2.2.2.2.2.2.2.2.1 c9.1.2.2.2.2.2.1.length fun i72=>gN c9.1.2.2.2.2.2.1 i72 fun(x73:aO×Int×Bool×List UInt8×(List aq)×Int)=>B60 ((c9.1.1,(),(),c9.1.2.2.2.1,c9.1.2.2.2.2.1,List.set c9.1.2.2.2.2.2.1 i72 (x73.1,x71.2.1,x71.2.2.1,x71.2.2.2.1,x71.2.2.2.2.1,x71.2.2.2.2.2),c9.1.2.2.2.2.2.2.1,c9.1.2.2.2.2.2.2.2.1,c9.1.2.2.2.2.2.2.2.2.1,c9.1.2.2.2.2.2.2.2.2.2.1,c9.1.2.2.2.2.2.2.2.2.2.2.1,c9.1.2.2.2.2.2.2.2.2.2.2.2.1,c9.1.2.2.2.2.2.2.2.2.2.2.2.2.1,IntKind.i64.wrap (c9.1.2.2.2.2.2.2.2.2.2.2.2.2.2.1+1),IntKind.i64.wrap (c9.1.2.2.2.2.2.2.2.2.2.2.2.2.2.2.1+1),()),(c9.2.1.1,c9.2.1.2.1,()),(c9.2.2.1.1,c9.2.2.1.2.1,c9.2.2.1.2.2.1,c9.2.2.1.2.2.2.1,c9.2.2.1.2.2.2.2.1,c9.2.2.1.2.2.2.2.2.1,()),()) ZT))) (B60 ((c9.1.1,(),(),c9.1.2.2.2.1,c9.1.2.2.2.2.1,c9.1.2.2.2.2.2.1,c9.1.2.2.2.2.2.2.1,c9.1.2.2.2.2.2.2.2.1,c9.1.2.2.2.2.2.2.2.2.1,c9.1.2.2.2.2.2.2.2.2.2.1,c9.1.2.2.2.2.2.2.2.2.2.2.1,c9.1.2.2.2.2.2.2.2.2.2.2.2.1,c9.1.2.2.2.2.2.2.2.2.2.2.2.2.1,c9.1.2.2.2.2.2.2.2.2.2.2.2.2.2.1,IntKind.i64.wrap (c9.1.2.2.2.2.2.2.2.2.2.2.2.2.2.2.1+1),()),(c9.2.1.1,c9.2.1.2.1,()),(c9.2.2.1.1,c9.2.2.1.2.1,c9.2.2.1.2.2.1,c9.2.2.1.2.2.2.1,c9.2.2.1.2.2.2.2.1,c9.2.2.1.2.2.2.2.2.1,()),()) ZT)) (af ((c9.1.2.2.2.2.2.2.2.2.2.2.2.2.2.1:Int)!=1) (K (false,()) ZT) (B56 ((c9.1.1,(),(),c9.1.2.2.2.1,c9.1.2.2.2.2.1,c9.1.2.2.2.2.2.1,c9.1.2.2.2.2.2.2.1,c9.1.2.2.2.2.2.2.2.1,c9.1.2.2.2.2.2.2.2.2.1,c9.1.2.2.2.2.2.2.2.2.2.1,c9.1.2.2.2.2.2.2.2.2.2.2.1,c9.1.2.2.2.2.2.2.2.2.2.2.2.1,IntKind.i64.wrap (c9.1.2.2.2.2.2.2.2.2.2.2.2.2.1+1),()),(c9.2.1.1,c9.2.1.2.1,()),(c9.2.2.1.1,c9.2.2.1.2.1,c9.2.2.1.2.2.1,c9.2.2.1.2.2.2.1,c9.2.2.1.2.2.2.2.1,c9.2.2.1.2.2.2.2.2.1,()),()) ZT))) (VO iQ.1.2.2.2.2.1 H55 fun(x74:T11) H75=>a9 (V:=((List (Int×Int×Int×Int×Int×Int×Int×List UInt8×List UInt8×List UInt8×List UInt8×Int))×Unit×Unit×Bool×Option Nat×(List (aO×Int×Bool×List UInt8×(List aq)×Int))×List Int×Int×Int×Int×Int×(List aq)×Int×Unit)×(List UInt8×List UInt8×Unit)×(Int×Int×Int×Int×Int×Int×Unit)×Unit) ((iQ.1.1,(),(),iQ.1.2.2.2.1,iQ.1.2.2.2.2.1,iQ.1.2.2.2.2.2.1,iQ.1.2.2.2.2.2.2.1,iQ.1.2.2.2.2.2.2.2.1,iQ.1.2.2.2.2.2.2.2.2.1,iQ.1.2.2.2.2.2.2.2.2.2.1,iQ.1.2.2.2.2.2.2.2.2.2.2.1,x74.1,0,()),(iQ.2.1.1,iQ.2.1.2.1,()),(iQ.2.2.1.1,iQ.2.2.1.2.1,iQ.2.2.1.2.2.1,iQ.2.2.1.2.2.2.1,iQ.2.2.1.2.2.2.2.1,iQ.2.2.1.2.2.2.2.2.1,()),()) H75 fun ja H77 B78=>aP ja.1.2.2.2.2.2.2.2.2.2.2.2.1.length fun n79=>af (decide (ja.1.2.2.2.2.2.2.2.2.2.2.2.2.1<n79)) (bT ja.1.2.2.2.2.2.2.2.2.2.2.2.1 ja.1.2.2.2.2.2.2.2.2.2.2.2.2.1 fun(l80:aq)=>Q12 (ja.2.1.1,ja.2.1.2.1) l80.1 fun(x81:T12)=>af (! x81.1) (K (false,()) H77) (B78 ((ja.1.1,(),(),ja.1.2.2.2.1,ja.1.2.2.2.2.1,ja.1.2.2.2.2.2.1,ja.1.2.2.2.2.2.2.1,ja.1.2.2.2.2.2.2.2.1,ja.1.2.2.2.2.2.2.2.2.1,ja.1.2.2.2.2.2.2.2.2.2.1,ja.1.2.2.2.2.2.2.2.2.2.2.1,ja.1.2.2.2.2.2.2.2.2.2.2.2.1,IntKind.i64.wrap (ja.1.2.2.2.2.2.2.2.2.2.2.2.2.1+1),()),(ja.2.1.1,ja.2.1.2.1,()),(ja.2.2.1.1,ja.2.2.1.2.1,ja.2.2.1.2.2.1,ja.2.2.1.2.2.2.1,ja.2.2.1.2.2.2.2.1,ja.2.2.1.2.2.2.2.2.1,()),()) H77)) (En ((ja.1.1,(),(),ja.1.2.2.2.1,ja.1.2.2.2.2.1,ja.1.2.2.2.2.2.1,ja.1.2.2.2.2.2.2.1,ja.1.2.2.2.2.2.2.2.1,ja.1.2.2.2.2.2.2.2.2.1,ja.1.2.2.2.2.2.2.2.2.2.1,IntKind.i64.wrap (ja.1.2.2.2.2.2.2.2.2.2.2.1+1),()),(ja.2.1.1,ja.2.1.2.1,()),(ja.2.2.1.1,ja.2.2.1.2.1,ja.2.2.1.2.2.1,ja.2.2.1.2.2.2.1,ja.2.2.1.2.2.2.2.1,ja.2.2.1.2.2.2.2.2.1,()),()) H77))) fun ZU=>((cB c8.2.2.1:Bool)=true)∧(af (bj c8.2.2.1) (af ((c8.1:Int)==0) (ZU ((x8.1.1,(),(),x8.1.2.2.2.1,x8.1.2.2.2.2.1,x8.1.2.2.2.2.2.1,x8.1.2.2.2.2.2.2.1,IntKind.i64.wrap (x8.1.2.2.2.2.2.2.2.1+gO.1),(-1),IntKind.i64.wrap ((IntKind.i64.wrap (x8.1.2.2.2.2.2.2.2.1+gO.1))+x8.2.2.1.2.2.2.2.1),x8.1.2.2.2.2.2.2.2.2.2.2.1,c8.2.1,()),(x8.2.1.1,x8.2.1.2.1,()),(x8.2.2.1.1,x8.2.2.1.2.1,x8.2.2.1.2.2.1,x8.2.2.1.2.2.2.1,x8.2.2.1.2.2.2.2.1,x8.2.2.1.2.2.2.2.2.1,()),()) uR) (ZU ((x8.1.1,(),(),x8.1.2.2.2.1,x8.1.2.2.2.2.1,x8.1.2.2.2.2.2.1,x8.1.2.2.2.2.2.2.1,IntKind.i64.wrap (x8.1.2.2.2.2.2.2.2.1+gO.1),d_.1,IntKind.i64.wrap ((IntKind.i64.wrap (x8.1.2.2.2.2.2.2.2.1+gO.1))+x8.2.2.1.2.2.2.2.1),x8.1.2.2.2.2.2.2.2.2.2.2.1,c8.2.1,()),(x8.2.1.1,x8.2.1.2.1,()),(x8.2.2.1.1,x8.2.2.1.2.1,x8.2.2.1.2.2.1,x8.2.2.1.2.2.2.1,x8.2.2.1.2.2.2.2.1,x8.2.2.1.2.2.2.2.2.1,()),()) uR)) (ZU ((x8.1.1,(),(),x8.1.2.2.2.1,x8.1.2.2.2.2.1,x8.1.2.2.2.2.2.1,x8.1.2.2.2.2.2.2.1,IntKind.i64.wrap (x8.1.2.2.2.2.2.2.2.1+gO.1),x8.1.2.2.2.2.2.2.2.2.1,x8.1.2.2.2.2.2.2.2.2.2.1,x8.1.2.2.2.2.2.2.2.2.2.2.1,c8.2.1,()),(x8.2.1.1,x8.2.1.2.1,()),(x8.2.2.1.1,x8.2.2.1.2.1,x8.2.2.1.2.2.1,x8.2.2.1.2.2.2.1,x8.2.2.1.2.2.2.2.1,x8.2.2.1.2.2.2.2.2.1,()),()) uR)))) (bE (V:=((List (Int×Int×Int×Int×Int×Int×Int×List UInt8×List UInt8×List UInt8×List UInt8×Int))×Unit×Unit×Bool×Option Nat×(List (aO×Int×Bool×List UInt8×(List aq)×Int))×List Int×Int×Int×Int×Int×(List (aO×Int×Bool×List UInt8×(List aq)×Int))×Unit)×(List UInt8×List UInt8×Unit)×(Int×Int×Int×Int×Int×Int×Unit)×Unit) (fun vV H84=>a9 (V:=((List (Int×Int×Int×Int×Int×Int×Int×List UInt8×List UInt8×List UInt8×List UInt8×Int))×Unit×Unit×Bool×Option Nat×(List (aO×Int×Bool×List UInt8×(List aq)×Int))×List Int×Int×Int×Int×Int×(List (aO×Int×Bool×List UInt8×(List aq)×Int))×Int×Unit)×(List UInt8×List UInt8×Unit)×(Int×Int×Int×Int×Int×Int×Unit)×Unit) ((vV.1.1,(),(),vV.1.2.2.2.1,vV.1.2.2.2.2.1,vV.1.2.2.2.2.2.1,vV.1.2.2.2.2.2.2.1,vV.1.2.2.2.2.2.2.2.1,vV.1.2.2.2.2.2.2.2.2.1,vV.1.2.2.2.2.2.2.2.2.2.1,vV.1.2.2.2.2.2.2.2.2.2.2.1,vV.1.2.2.2.2.2.2.2.2.2.2.2.1,0,()),(vV.2.1.1,vV.2.1.2.1,()),(vV.2.2.1.1,vV.2.2.1.2.1,vV.2.2.1.2.2.1,vV.2.2.1.2.2.2.1,vV.2.2.1.2.2.2.2.1,vV.2.2.1.2.2.2.2.2.1,()),()) H84 fun jD H86 B87=>aP jD.1.2.2.2.2.2.2.2.2.2.2.2.1.length fun n88=>af (decide (jD.1.2.2.2.2.2.2.2.2.2.2.2.2.1<n88)) (a9 (V:=((List (Int×Int×Int×Int×Int×Int×Int×List UInt8×List UInt8×List UInt8×List UInt8×Int))×Unit×Unit×Bool×Option Nat×(List (aO×Int×Bool×List UInt8×(List aq)×Int))×List Int×Int×Int×Int×Int×(List (aO×Int×Bool×List UInt8×(List aq)×Int))×Int×Int×Int×Unit)×(List UInt8×List UInt8×Unit)×(Int×Int×Int×Int×Int×Int×Unit)×Unit) ((jD.1.1,(),(),jD.1.2.2.2.1,jD.1.2.2.2.2.1,jD.1.2.2.2.2.2.1,jD.1.2.2.2.2.2.2.1,jD.1.2.2.2.2.2.2.2.1,jD.1.2.2.2.2.2.2.2.2.1,jD.1.2.2.2.2.2.2.2.2.2.1,jD.1.2.2.2.2.2.2.2.2.2.2.1,jD.1.2.2.2.2.2.2.2.2.2.2.2.1,jD.1.2.2.2.2.2.2.2.2.2.2.2.2.1,0,0,()),(jD.2.1.1,jD.2.1.2.1,()),(jD.2.2.1.1,jD.2.2.1.2.1,jD.2.2.1.2.2.1,jD.2.2.1.2.2.2.1,jD.2.2.1.2.2.2.2.1,jD.2.2.1.2.2.2.2.2.1,()),()) H86 fun c_ ZV B91=>aP c_.1.2.2.2.2.2.1.length fun n92=>af (decide (c_.1.2.2.2.2.2.2.2.2.2.2.2.2.2.2.1<n92)) (cS c_.1.2.2.2.2.2.2.2.2.2.2.2.2.2.2.1 c_.1.2.2.2.2.2.1.length fun i93=>gN c_.1.2.2.2.2.2.1 i93 fun(x94:aO×Int×Bool×List UInt8×(List aq)×Int)=>bT c_.1.2.2.2.2.2.2.2.2.2.2.2.1 c_.1.2.2.2.2.2.2.2.2.2.2.2.2.1 fun(x95:aO×Int×Bool×List UInt8×(List aq)×Int)=>af ((x94.1.2.1:Int)==x95.1.2.1) (cS c_.1.2.2.2.2.2.2.2.2.2.2.2.2.2.2.1 c_.1.2.2.2.2.2.1.length fun i96=>gN c_.1.2.2.2.2.2.1 i96 fun(x97:aO×Int×Bool×List UInt8×(List aq)×Int)=>af ((x97.2.1:Int)!=(-1)) (K (false,()) ZV) (cS c_.1.2.2.2.2.2.2.2.2.2.2.2.2.2.2.1 c_.1.2.2.2.2.2.1.length fun i98=>gN c_.1.2.2.2.2.2.1 i98 fun(Re:aO×Int×Bool×List UInt8×(List aq)×Int)=>bT c_.1.2.2.2.2.2.2.2.2.2.2.2.1 c_.1.2.2.2.2.2.2.2.2.2.2.2.2.1 fun(Bu:aO×Int×Bool×List UInt8×(List aq)×Int)=>Q10 (Re.1.1,Re.1.2.1,Re.1.2.2.1,Re.1.2.2.2.1,Re.1.2.2.2.2.1,Re.1.2.2.2.2.2.1,Re.1.2.2.2.2.2.2.1,Re.1.2.2.2.2.2.2.2) (Bu.1.1,Bu.1.2.1,Bu.1.2.2.1,Bu.1.2.2.2.1,Bu.1.2.2.2.2.1,Bu.1.2.2.2.2.2.1,Bu.1.2.2.2.2.2.2.1,Bu.1.2.2.2.2.2.2.2) fun(asI:T10)=>af (! asI.1) (K (false,()) ZV) (bT c_.1.2.2.2.2.2.2.2.2.2.2.2.1 c_.1.2.2.2.2.2.2.2.2.2.2.2.2.1 fun(N6:aO×Int×Bool×List UInt8×(List aq)×Int)=>cS c_.1.2.2.2.2.2.2.2.2.2.2.2.2.2.2.1 c_.1.2.2.2.2.2.1.length fun i103=>gN c_.1.2.2.2.2.2.1 i103 fun(asJ:aO×Int×Bool×List UInt8×(List aq)×Int)=>B91 ((c_.1.1,(),(),c_.1.2.2.2.1,c_.1.2.2.2.2.1,List.set c_.1.2.2.2.2.2.1 i103 (asJ.1,N6.2.1,N6.2.2.1,N6.2.2.2.1,N6.2.2.2.2.1,N6.2.2.2.2.2),c_.1.2.2.2.2.2.2.1,c_.1.2.2.2.2.2.2.2.1,c_.1.2.2.2.2.2.2.2.2.1,c_.1.2.2.2.2.2.2.2.2.2.1,c_.1.2.2.2.2.2.2.2.2.2.2.1,c_.1.2.2.2.2.2.2.2.2.2.2.2.1,c_.1.2.2.2.2.2.2.2.2.2.2.2.2.1,IntKind.i64.wrap (c_.1.2.2.2.2.2.2.2.2.2.2.2.2.2.1+1),IntKind.i64.wrap (c_.1.2.2.2.2.2.2.2.2.2.2.2.2.2.2.1+1),()),(c_.2.1.1,c_.2.1.2.1,()),(c_.2.2.1.1,c_.2.2.1.2.1,c_.2.2.1.2.2.1,c_.2.2.1.2.2.2.1,c_.2.2.1.2.2.2.2.1,c_.2.2.1.2.2.2.2.2.1,()),()) ZV))) (B91 ((c_.1.1,(),(),c_.1.2.2.2.1,c_.1.2.2.2.2.1,c_.1.2.2.2.2.2.1,c_.1.2.2.2.2.2.2.1,c_.1.2.2.2.2.2.2.2.1,c_.1.2.2.2.2.2.2.2.2.1,c_.1.2.2.2.2.2.2.2.2.2.1,c_.1.2.2.2.2.2.2.2.2.2.2.1,c_.1.2.2.2.2.2.2.2.2.2.2.2.1,c_.1.2.2.2.2.2.2.2.2.2.2.2.2.1,c_.1.2.2.2.2.2.2.2.2.2.2.2.2.2.1,IntKind.i64.wrap (c_.1.2.2.2.2.2.2.2.2.2.2.2.2.2.2.1+1),()),(c_.2.1.1,c_.2.1.2.1,()),(c_.2.2.1.1,c_.2.2.1.2.1,c_.2.2.1.2.2.1,c_.2.2.1.2.2.2.1,c_.2.2.1.2.2.2.2.1,c_.2.2.1.2.2.2.2.2.1,()),()) ZV)) (af ((c_.1.2.2.2.2.2.2.2.2.2.2.2.2.2.1:Int)!=1) (K (false,()) ZV) (B87 ((c_.1.1,(),(),c_.1.2.2.2.1,c_.1.2.2.2.2.1,c_.1.2.2.2.2.2.1,c_.1.2.2.2.2.2.2.1,c_.1.2.2.2.2.2.2.2.1,c_.1.2.2.2.2.2.2.2.2.1,c_.1.2.2.2.2.2.2.2.2.2.1,c_.1.2.2.2.2.2.2.2.2.2.2.1,c_.1.2.2.2.2.2.2.2.2.2.2.2.1,IntKind.i64.wrap (c_.1.2.2.2.2.2.2.2.2.2.2.2.2.1+1),()),(c_.2.1.1,c_.2.1.2.1,()),(c_.2.2.1.1,c_.2.2.1.2.1,c_.2.2.1.2.2.1,c_.2.2.1.2.2.2.1,c_.2.2.1.2.2.2.2.1,c_.2.2.1.2.2.2.2.2.1,()),()) ZV))) (VO jD.1.2.2.2.2.1 H86 fun(asK:T11) asL=>a9 (V:=((List (Int×Int×Int×Int×Int×Int×Int×List UInt8×List UInt8×List UInt8×List UInt8×Int))×Unit×Unit×Bool×Option Nat×(List (aO×Int×Bool×List UInt8×(List aq)×Int))×List Int×Int×Int×Int×Int×(List aq)×Int×Unit)×(List UInt8×List UInt8×Unit)×(Int×Int×Int×Int×Int×Int×Unit)×Unit) ((jD.1.1,(),(),jD.1.2.2.2.1,jD.1.2.2.2.2.1,jD.1.2.2.2.2.2.1,jD.1.2.2.2.2.2.2.1,jD.1.2.2.2.2.2.2.2.1,jD.1.2.2.2.2.2.2.2.2.1,jD.1.2.2.2.2.2.2.2.2.2.1,jD.1.2.2.2.2.2.2.2.2.2.2.1,asK.1,0,()),(jD.2.1.1,jD.2.1.2.1,()),(jD.2.2.1.1,jD.2.2.1.2.1,jD.2.2.1.2.2.1,jD.2.2.1.2.2.2.1,jD.2.2.1.2.2.2.2.1,jD.2.2.1.2.2.2.2.2.1,()),()) asL fun dV acj asM=>aP dV.1.2.2.2.2.2.2.2.2.2.2.2.1.length fun asN=>af (decide (dV.1.2.2.2.2.2.2.2.2.2.2.2.2.1<asN)) (bT dV.1.2.2.2.2.2.2.2.2.2.2.2.1 dV.1.2.2.2.2.2.2.2.2.2.2.2.2.1 fun(asO:aq)=>Q12 (dV.2.1.1,dV.2.1.2.1) asO.1 fun(asP:T12)=>af (! asP.1) (K (false,()) acj) (asM ((dV.1.1,(),(),dV.1.2.2.2.1,dV.1.2.2.2.2.1,dV.1.2.2.2.2.2.1,dV.1.2.2.2.2.2.2.1,dV.1.2.2.2.2.2.2.2.1,dV.1.2.2.2.2.2.2.2.2.1,dV.1.2.2.2.2.2.2.2.2.2.1,dV.1.2.2.2.2.2.2.2.2.2.2.1,dV.1.2.2.2.2.2.2.2.2.2.2.2.1,IntKind.i64.wrap (dV.1.2.2.2.2.2.2.2.2.2.2.2.2.1+1),()),(dV.2.1.1,dV.2.1.2.1,()),(dV.2.2.1.1,dV.2.2.1.2.1,dV.2.2.1.2.2.1,dV.2.2.1.2.2.2.1,dV.2.2.1.2.2.2.2.1,dV.2.2.1.2.2.2.2.2.1,()),()) acj)) (En ((dV.1.1,(),(),dV.1.2.2.2.1,dV.1.2.2.2.2.1,dV.1.2.2.2.2.2.1,dV.1.2.2.2.2.2.2.1,dV.1.2.2.2.2.2.2.2.1,dV.1.2.2.2.2.2.2.2.2.1,dV.1.2.2.2.2.2.2.2.2.2.1,IntKind.i64.wrap (dV.1.2.2.2.2.2.2.2.2.2.2.1+1),()),(dV.2.1.1,dV.2.1.2.1,()),(dV.2.2.1.1,dV.2.2.1.2.1,dV.2.2.1.2.2.1,dV.2.2.1.2.2.2.1,dV.2.2.1.2.2.2.2.1,dV.2.2.1.2.2.2.2.2.1,()),()) acj))) fun ack=>((cB c8.2.2.1:Bool)=true)∧(af (bj c8.2.2.1) (af ((c8.1:Int)==0) (ack ((x8.1.1,(),(),x8.1.2.2.2.1,x8.1.2.2.2.2.1,x8.1.2.2.2.2.2.1,x8.1.2.2.2.2.2.2.1,IntKind.i64.wrap (x8.1.2.2.2.2.2.2.2.1+gO.1),(-1),IntKind.i64.wrap ((IntKind.i64.wrap (x8.1.2.2.2.2.2.2.2.1+gO.1))+x8.2.2.1.2.2.2.2.1),x8.1.2.2.2.2.2.2.2.2.2.2.1,c8.2.1,()),(x8.2.1.1,x8.2.1.2.1,()),(x8.2.2.1.1,x8.2.2.1.2.1,x8.2.2.1.2.2.1,x8.2.2.1.2.2.2.1,x8.2.2.1.2.2.2.2.1,x8.2.2.1.2.2.2.2.2.1,()),()) uR) (ack ((x8.1.1,(),(),x8.1.2.2.2.1,x8.1.2.2.2.2.1,x8.1.2.2.2.2.2.1,x8.1.2.2.2.2.2.2.1,IntKind.i64.wrap (x8.1.2.2.2.2.2.2.2.1+gO.1),d_.1,IntKind.i64.wrap ((IntKind.i64.wrap (x8.1.2.2.2.2.2.2.2.1+gO.1))+x8.2.2.1.2.2.2.2.1),x8.1.2.2.2.2.2.2.2.2.2.2.1,c8.2.1,()),(x8.2.1.1,x8.2.1.2.1,()),(x8.2.2.1.1,x8.2.2.1.2.1,x8.2.2.1.2.2.1,x8.2.2.1.2.2.2.1,x8.2.2.1.2.2.2.2.1,x8.2.2.1.2.2.2.2.2.1,()),()) uR)) (ack ((x8.1.1,(),(),x8.1.2.2.2.1,x8.1.2.2.2.2.1,x8.1.2.2.2.2.2.1,x8.1.2.2.2.2.2.2.1,IntKind.i64.wrap (x8.1.2.2.2.2.2.2.2.1+gO.1),x8.1.2.2.2.2.2.2.2.2.1,x8.1.2.2.2.2.2.2.2.2.2.1,x8.1.2.2.2.2.2.2.2.2.2.2.1,c8.2.1,()),(x8.2.1.1,x8.2.1.2.1,()),(x8.2.2.1.1,x8.2.2.1.2.1,x8.2.2.1.2.2.1,x8.2.2.1.2.2.2.1,x8.2.2.1.2.2.2.2.1,x8.2.2.1.2.2.2.2.2.1,()),()) uR)))) (bE (V:=((List (Int×Int×Int×Int×Int×Int×Int×List UInt8×List UInt8×List UInt8×List UInt8×Int))×Unit×Unit×Bool×Option Nat×(List (aO×Int×Bool×List UInt8×(List aq)×Int))×List Int×Int×Int×Int×Int×(List (aO×Int×Bool×List UInt8×(List aq)×Int))×Unit)×(List UInt8×List UInt8×Unit)×(Int×Int×Int×Int×Int×Int×Unit)×Unit) (fun mQ asQ=>a9 (V:=((List (Int×Int×Int×Int×Int×Int×Int×List UInt8×List UInt8×List UInt8×List UInt8×Int))×Unit×Unit×Bool×Option Nat×(List (aO×Int×Bool×List UInt8×(List aq)×Int))×List Int×Int×Int×Int×Int×(List (aO×Int×Bool×List UInt8×(List aq)×Int))×Int×Unit)×(List UInt8×List UInt8×Unit)×(Int×Int×Int×Int×Int×Int×Unit)×Unit) ((mQ.1.1,(),(),mQ.1.2.2.2.1,mQ.1.2.2.2.2.1,mQ.1.2.2.2.2.2.1,mQ.1.2.2.2.2.2.2.1,mQ.1.2.2.2.2.2.2.2.1,mQ.1.2.2.2.2.2.2.2.2.1,mQ.1.2.2.2.2.2.2.2.2.2.1,mQ.1.2.2.2.2.2.2.2.2.2.2.1,mQ.1.2.2.2.2.2.2.2.2.2.2.2.1,0,()),(mQ.2.1.1,mQ.2.1.2.1,()),(mQ.2.2.1.1,mQ.2.2.1.2.1,mQ.2.2.1.2.2.1,mQ.2.2.1.2.2.2.1,mQ.2.2.1.2.2.2.2.1,mQ.2.2.1.2.2.2.2.2.1,()),()) asQ fun eJ ajO asS=>aP eJ.1.2.2.2.2.2.2.2.2.2.2.2.1.length fun asT=>af (decide (eJ.1.2.2.2.2.2.2.2.2.2.2.2.2.1<asT)) (a9 (V:=((List (Int×Int×Int×Int×Int×Int×Int×List UInt8×List UInt8×List UInt8×List UInt8×Int))×Unit×Unit×Bool×Option Nat×(List (aO×Int×Bool×List UInt8×(List aq)×Int))×List Int×Int×Int×Int×Int×(List (aO×Int×Bool×List UInt8×(List aq)×Int))×Int×Int×Int×Unit)×(List UInt8×List UInt8×Unit)×(Int×Int×Int×Int×Int×Int×Unit)×Unit) ((eJ.1.1,(),(),eJ.1.2.2.2.1,eJ.1.2.2.2.2.1,eJ.1.2.2.2.2.2.1,eJ.1.2.2.2.2.2.2.1,eJ.1.2.2.2.2.2.2.2.1,eJ.1.2.2.2.2.2.2.2.2.1,eJ.1.2.2.2.2.2.2.2.2.2.1,eJ.1.2.2.2.2.2.2.2.2.2.2.1,eJ.1.2.2.2.2.2.2.2.2.2.2.2.1,eJ.1.2.2.2.2.2.2.2.2.2.2.2.2.1,0,0,()),(eJ.2.1.1,eJ.2.1.2.1,()),(eJ.2.2.1.1,eJ.2.2.1.2.1,eJ.2.2.1.2.2.1,eJ.2.2.1.2.2.2.1,eJ.2.2.1.2.2.2.2.1,eJ.2.2.1.2.2.2.2.2.1,()),()) ajO fun bn JU ajP=>aP bn.1.2.2.2.2.2.1.length fun asU=>af (decide (bn.1.2.2.2.2.2.2.2.2.2.2.2.2.2.2.1<asU)) (cS bn.1.2.2.2.2.2.2.2.2.2.2.2.2.2.2.1 bn.1.2.2.2.2.2.1.length fun i124=>gN bn.1.2.2.2.2.2.1 i124 fun(asV:aO×Int×Bool×List UInt8×(List aq)×Int)=>bT bn.1.2.2.2.2.2.2.2.2.2.2.2.1 bn.1.2.2.2.2.2.2.2.2.2.2.2.2.1 fun(asW:aO×Int×Bool×List UInt8×(List aq)×Int)=>af ((asV.1.2.1:Int)==asW.1.2.1) (cS bn.1.2.2.2.2.2.2.2.2.2.2.2.2.2.2.1 bn.1.2.2.2.2.2.1.length fun i127=>gN bn.1.2.2.2.2.2.1 i127 fun(asX:aO×Int×Bool×List UInt8×(List aq)×Int)=>af ((asX.2.1:Int)!=(-1)) (K (false,()) JU) (cS bn.1.2.2.2.2.2.2.2.2.2.2.2.2.2.2.1 bn.1.2.2.2.2.2.1.length fun i129=>gN bn.1.2.2.2.2.2.1 i129 fun(Bv:aO×Int×Bool×List UInt8×(List aq)×Int)=>bT bn.1.2.2.2.2.2.2.2.2.2.2.2.1 bn.1.2.2.2.2.2.2.2.2.2.2.2.2.1 fun(Bw:aO×Int×Bool×List UInt8×(List aq)×Int)=>Q10 (Bv.1.1,Bv.1.2.1,Bv.1.2.2.1,Bv.1.2.2.2.1,Bv.1.2.2.2.2.1,Bv.1.2.2.2.2.2.1,Bv.1.2.2.2.2.2.2.1,Bv.1.2.2.2.2.2.2.2) (Bw.1.1,Bw.1.2.1,Bw.1.2.2.1,Bw.1.2.2.2.1,Bw.1.2.2.2.2.1,Bw.1.2.2.2.2.2.1,Bw.1.2.2.2.2.2.2.1,Bw.1.2.2.2.2.2.2.2) fun(asY:T10)=>af (! asY.1) (K (false,()) JU) (bT bn.1.2.2.2.2.2.2.2.2.2.2.2.1 bn.1.2.2.2.2.2.2.2.2.2.2.2.2.1 fun(N7:aO×Int×Bool×List UInt8×(List aq)×Int)=>cS bn.1.2.2.2.2.2.2.2.2.2.2.2.2.2.2.1 bn.1.2.2.2.2.2.1.length fun i134=>gN bn.1.2.2.2.2.2.1 i134 fun(asZ:aO×Int×Bool×List UInt8×(List aq)×Int)=>ajP ((bn.1.1,(),(),bn.1.2.2.2.1,bn.1.2.2.2.2.1,List.set bn.1.2.2.2.2.2.1 i134 (asZ.1,N7.2.1,N7.2.2.1,N7.2.2.2.1,N7.2.2.2.2.1,N7.2.2.2.2.2),bn.1.2.2.2.2.2.2.1,bn.1.2.2.2.2.2.2.2.1,bn.1.2.2.2.2.2.2.2.2.1,bn.1.2.2.2.2.2.2.2.2.2.1,bn.1.2.2.2.2.2.2.2.2.2.2.1,bn.1.2.2.2.2.2.2.2.2.2.2.2.1,bn.1.2.2.2.2.2.2.2.2.2.2.2.2.1,IntKind.i64.wrap (bn.1.2.2.2.2.2.2.2.2.2.2.2.2.2.1+1),IntKind.i64.wrap (bn.1.2.2.2.2.2.2.2.2.2.2.2.2.2.2.1+1),()),(bn.2.1.1,bn.2.1.2.1,()),(bn.2.2.1.1,bn.2.2.1.2.1,bn.2.2.1.2.2.1,bn.2.2.1.2.2.2.1,bn.2.2.1.2.2.2.2.1,bn.2.2.1.2.2.2.2.2.1,()),()) JU))) (ajP ((bn.1.1,(),(),bn.1.2.2.2.1,bn.1.2.2.2.2.1,bn.1.2.2.2.2.2.1,bn.1.2.2.2.2.2.2.1,bn.1.2.2.2.2.2.2.2.1,bn.1.2.2.2.2.2.2.2.2.1,bn.1.2.2.2.2.2.2.2.2.2.1,bn.1.2.2.2.2.2.2.2.2.2.2.1,bn.1.2.2.2.2.2.2.2.2.2.2.2.1,bn.1.2.2.2.2.2.2.2.2.2.2.2.2.1,bn.1.2.2.2.2.2.2.2.2.2.2.2.2.2.1,IntKind.i64.wrap (bn.1.2.2.2.2.2.2.2.2.2.2.2.2.2.2.1+1),()),(bn.2.1.1,bn.2.1.2.1,()),(bn.2.2.1.1,bn.2.2.1.2.1,bn.2.2.1.2.2.1,bn.2.2.1.2.2.2.1,bn.2.2.1.2.2.2.2.1,bn.2.2.1.2.2.2.2.2.1,()),()) JU)) (af ((bn.1.2.2.2.2.2.2.2.2.2.2.2.2.2.1:Int)!=1) (K (false,()) JU) (asS ((bn.1.1,(),(),bn.1.2.2.2.1,bn.1.2.2.2.2.1,bn.1.2.2.2.2.2.1,bn.1.2.2.2.2.2.2.1,bn.1.2.2.2.2.2.2.2.1,bn.1.2.2.2.2.2.2.2.2.1,bn.1.2.2.2.2.2.2.2.2.2.1,bn.1.2.2.2.2.2.2.2.2.2.2.1,bn.1.2.2.2.2.2.2.2.2.2.2.2.1,IntKind.i64.wrap (bn.1.2.2.2.2.2.2.2.2.2.2.2.2.1+1),()),(bn.2.1.1,bn.2.1.2.1,()),(bn.2.2.1.1,bn.2.2.1.2.1,bn.2.2.1.2.2.1,bn.2.2.1.2.2.2.1,bn.2.2.1.2.2.2.2.1,bn.2.2.1.2.2.2.2.2.1,()),()) JU))) (VO eJ.1.2.2.2.2.1 ajO fun(ata:T11) atb=>a9 (V:=((List (Int×Int×Int×Int×Int×Int×Int×List UInt8×List UInt8×List UInt8×List UInt8×Int))×Unit×Unit×Bool×Option Nat×(List (aO×Int×Bool×List UInt8×(List aq)×Int))×List Int×Int×Int×Int×Int×(List aq)×Int×Unit)×(List UInt8×List UInt8×Unit)×(Int×Int×Int×Int×Int×Int×Unit)×Unit) ((eJ.1.1,(),(),eJ.1.2.2.2.1,eJ.1.2.2.2.2.1,eJ.1.2.2.2.2.2.1,eJ.1.2.2.2.2.2.2.1,eJ.1.2.2.2.2.2.2.2.1,eJ.1.2.2.2.2.2.2.2.2.1,eJ.1.2.2.2.2.2.2.2.2.2.1,eJ.1.2.2.2.2.2.2.2.2.2.2.1,ata.1,0,()),(eJ.2.1.1,eJ.2.1.2.1,()),(eJ.2.2.1.1,eJ.2.2.1.2.1,eJ.2.2.1.2.2.1,eJ.2.2.1.2.2.2.1,eJ.2.2.1.2.2.2.2.1,eJ.2.2.1.2.2.2.2.2.1,()),()) atb fun dW acm atc=>aP dW.1.2.2.2.2.2.2.2.2.2.2.2.1.length fun atd=>af (decide (dW.1.2.2.2.2.2.2.2.2.2.2.2.2.1<atd)) (bT dW.1.2.2.2.2.2.2.2.2.2.2.2.1 dW.1.2.2.2.2.2.2.2.2.2.2.2.2.1 fun(ate:aq)=>Q12 (dW.2.1.1,dW.2.1.2.1) ate.1 fun(atf:T12)=>af (! atf.1) (K (false,()) acm) (atc ((dW.1.1,(),(),dW.1.2.2.2.1,dW.1.2.2.2.2.1,dW.1.2.2.2.2.2.1,dW.1.2.2.2.2.2.2.1,dW.1.2.2.2.2.2.2.2.1,dW.1.2.2.2.2.2.2.2.2.1,dW.1.2.2.2.2.2.2.2.2.2.1,dW.1.2.2.2.2.2.2.2.2.2.2.1,dW.1.2.2.2.2.2.2.2.2.2.2.2.1,IntKind.i64.wrap (dW.1.2.2.2.2.2.2.2.2.2.2.2.2.1+1),()),(dW.2.1.1,dW.2.1.2.1,()),(dW.2.2.1.1,dW.2.2.1.2.1,dW.2.2.1.2.2.1,dW.2.2.1.2.2.2.1,dW.2.2.1.2.2.2.2.1,dW.2.2.1.2.2.2.2.2.1,()),()) acm)) (En ((dW.1.1,(),(),dW.1.2.2.2.1,dW.1.2.2.2.2.1,dW.1.2.2.2.2.2.1,dW.1.2.2.2.2.2.2.1,dW.1.2.2.2.2.2.2.2.1,dW.1.2.2.2.2.2.2.2.2.1,dW.1.2.2.2.2.2.2.2.2.2.1,IntKind.i64.wrap (dW.1.2.2.2.2.2.2.2.2.2.2.1+1),()),(dW.2.1.1,dW.2.1.2.1,()),(dW.2.2.1.1,dW.2.2.1.2.1,dW.2.2.1.2.2.1,dW.2.2.1.2.2.2.1,dW.2.2.1.2.2.2.2.1,dW.2.2.1.2.2.2.2.2.1,()),()) acm))) fun acn=>((cB c8.2.2.1:Bool)=true)∧(af (bj c8.2.2.1) (af ((c8.1:Int)==0) (acn ((x8.1.1,(),(),x8.1.2.2.2.1,x8.1.2.2.2.2.1,x8.1.2.2.2.2.2.1,x8.1.2.2.2.2.2.2.1,IntKind.i64.wrap (x8.1.2.2.2.2.2.2.2.1+gO.1),(-1),IntKind.i64.wrap ((IntKind.i64.wrap (x8.1.2.2.2.2.2.2.2.1+gO.1))+x8.2.2.1.2.2.2.2.1),x8.1.2.2.2.2.2.2.2.2.2.2.1,c8.2.1,()),(x8.2.1.1,x8.2.1.2.1,()),(x8.2.2.1.1,x8.2.2.1.2.1,x8.2.2.1.2.2.1,x8.2.2.1.2.2.2.1,x8.2.2.1.2.2.2.2.1,x8.2.2.1.2.2.2.2.2.1,()),()) uR) (acn ((x8.1.1,(),(),x8.1.2.2.2.1,x8.1.2.2.2.2.1,x8.1.2.2.2.2.2.1,x8.1.2.2.2.2.2.2.1,IntKind.i64.wrap (x8.1.2.2.2.2.2.2.2.1+gO.1),d_.1,IntKind.i64.wrap ((IntKind.i64.wrap (x8.1.2.2.2.2.2.2.2.1+gO.1))+x8.2.2.1.2.2.2.2.1),x8.1.2.2.2.2.2.2.2.2.2.2.1,c8.2.1,()),(x8.2.1.1,x8.2.1.2.1,()),(x8.2.2.1.1,x8.2.2.1.2.1,x8.2.2.1.2.2.1,x8.2.2.1.2.2.2.1,x8.2.2.1.2.2.2.2.1,x8.2.2.1.2.2.2.2.2.1,()),()) uR)) (acn ((x8.1.1,(),(),x8.1.2.2.2.1,x8.1.2.2.2.2.1,x8.1.2.2.2.2.2.1,x8.1.2.2.2.2.2.2.1,IntKind.i64.wrap (x8.1.2.2.2.2.2.2.2.1+gO.1),x8.1.2.2.2.2.2.2.2.2.1,x8.1.2.2.2.2.2.2.2.2.2.1,x8.1.2.2.2.2.2.2.2.2.2.2.1,c8.2.1,()),(x8.2.1.1,x8.2.1.2.1,()),(x8.2.2.1.1,x8.2.2.1.2.1,x8.2.2.1.2.2.1,x8.2.2.1.2.2.2.1,x8.2.2.1.2.2.2.2.1,x8.2.2.1.2.2.2.2.2.1,()),()) uR)))))) (a9 (V:=(Bool×Option Nat×(List (aO×Int×Bool×List UInt8×(List aq)×Int))×List Int×Int×Unit)×Unit) ((x8.1.2.2.2.1,x8.1.2.2.2.2.1,x8.1.2.2.2.2.2.1,x8.1.2.2.2.2.2.2.1,0,()),()) H9 fun iy ajQ ajR=>aP iy.1.2.2.1.length fun atg=>af (decide (iy.1.2.2.2.2.1<atg)) (cS iy.1.2.2.2.2.1 iy.1.2.2.2.1.length fun i149=>gN iy.1.2.2.2.1 i149 fun ath=>cS iy.1.2.2.2.2.1 iy.1.2.2.1.length fun i151=>gN iy.1.2.2.1 i151 fun(ati:aO×Int×Bool×List UInt8×(List aq)×Int)=>cS iy.1.2.2.2.2.1 iy.1.2.2.1.length fun i153=>gN iy.1.2.2.1 i153 fun(atj:aO×Int×Bool×List UInt8×(List aq)×Int)=>C13 iy.1.2.1 ath ati.1.1 atj.1.2.1 ajQ fun(Fz:T13) aco=>((cB Fz.2.1:Bool)=true)∧(af (bj Fz.2.1) (cS iy.1.2.2.2.2.1 iy.1.2.2.1.length fun i157=>gN iy.1.2.2.1 i157 fun(N8:aO×Int×Bool×List UInt8×(List aq)×Int)=>Q14 (Fz.1.1,Fz.1.2.1,Fz.1.2.2.1,Fz.1.2.2.2.1,Fz.1.2.2.2.2) (N8.2.1,N8.2.2.1,N8.2.2.2.1,N8.2.2.2.2.1,N8.2.2.2.2.2) fun(atk:T14)=>af (! atk.1) (K (false,()) aco) (ajR ((iy.1.1,iy.1.2.1,iy.1.2.2.1,iy.1.2.2.2.1,IntKind.i64.wrap (iy.1.2.2.2.2.1+1),()),()) aco)) (ajR ((iy.1.1,iy.1.2.1,iy.1.2.2.1,iy.1.2.2.2.1,IntKind.i64.wrap (iy.1.2.2.2.2.1+1),()),()) aco))) (K (iy.1.1,()) ajQ))))))))
theorem afo (a0 a1 a2 H K) (h:A3 a0 a1 a2 H K):C3 a0 a1 a2 H K:=
 aa og Tryz.func3 (Eq.mp (by kernel_rfl:A3 a0 a1 a2 H K=bq ⟨Tryz.prog,s9,s8,[],eD⟩ ⟨[(2,.row (.cons (.one (.int .i64)) (.cons (.one (.int .i64)) (.cons (.one (.int .i64)) (.cons (.one (.int .i64)) aM))))),(9,.one .any),(10,.own (.cons aM dH) 49),(11,.own (.one (.int .i64)) 3),(19,.one .any),(22,.row (.cons aM dH)),(23,.one .any),(27,.row aj),(32,.one .any),(35,.row .byte),(40,.row .byte),(45,.row (.cons (.one (.int .i64)) (.cons (.one (.int .i64)) (.cons (.one (.int .i64)) (.cons (.one (.int .i64)) aM))))),(55,.one .any),(59,.one .any),(68,.row (.cons (.one (.int .i64)) (.cons (.one (.int .i64)) (.cons (.one (.int .i64)) (.cons (.one (.int .i64)) aM))))),(73,.row (.cons (.one (.int .i64)) (.cons (.one (.int .i64)) (.cons (.one (.int .i64)) (.cons (.one (.int .i64)) aM))))),(96,.one .any),(97,.one .any),(99,.own (.cons aM dH) 49),(104,.row (.cons aM dH)),(105,.own (.cons aM dH) 49),(106,.own (.one (.int .i64)) 3),(108,.row (.one (.int .i64))),(109,.own (.one (.int .i64)) 3),(124,.row (.cons aM dH)),(125,.one .any),(139,.one .any),(142,.one .any),(152,.row (.cons aM dH)),(158,.own (.cons aM dH) 49),(163,.own (.cons aM dH) 49),(169,.row (.cons aM dH)),(178,.own (.cons aM dH) 49),(186,.own (.cons aM dH) 49),(191,.row (.cons aM dH)),(199,.own (.cons aM dH) 49),(201,.row (.cons aM dH)),(211,.row aj),(213,.row aj),(219,.row aj),(223,.row .byte),(228,.own (.cons aM dH) 49),(235,.own (.one (.int .i64)) 3),(239,.own (.cons aM dH) 49),(245,.own (.cons aM dH) 49),(253,.one .any),(254,.one .any),(258,.own (.cons aM dH) 49)],[]⟩ (.seq .n (.seq .n (.seq (.seq .n (.cond (.seq .n .n) .n)) (.seq .n (.seq (.seq .n (.cond (.seq .n .n) .n)) (.seq .n (.seq .n (.seq .n (.seq .n (.seq .n (.seq (.seq .n (.aC (.loop [2,3,4,7,8,10,11,12,13,14,15] [3,4] (.seq (.seq .n (.cond .n .n)) (.seq (.aC (.seq .n (.seq .n (.seq (.seq .n (.cond (.seq .n .n) .n)) (.seq (.seq .n (.cond (.seq .n (.seq .n (.seq (.seq .n (.cond (.seq .n .n) .n)) .n))) .n)) (.seq .n (.seq .n (.seq .n (.seq (.seq .n (.cond (.seq .n .n) .n)) (.join [(2,.v (.row (.cons (.one (.int .i64)) (.cons (.one (.int .i64)) (.cons (.one (.int .i64)) (.cons (.one (.int .i64)) aM)))))),(3,.v (.bx 3 0)),(4,.v (.bx 4 0)),(7,.v (.one .bool)),(8,.v (.ref)),(10,.v (.own (.cons aM dH) 49)),(11,.v (.own (.one (.int .i64)) 3)),(12,.v (.one (.int .i64))),(13,.v (.one (.int .i64))),(14,.v (.one (.int .i64))),(15,.v (.one (.int .i64))),(22,.v (.row (.cons aM dH)))] [(3,[.row .byte,.row .byte]),(4,[.one (.int .i64),.one (.int .i64),.one (.int .i64),.one (.int .i64),.one (.int .i64),.one (.int .i64)])] (.seq .n (.cond (.seq .n (.seq .n (.seq .n (.cond .n .n)))) .n)) (.seq (.seq .n (.aC (.loop [2,3,4,7,8,10,11,12,13,14,15,22,24] [3,4] (.seq (.seq .n (.cond .n .n)) (.seq (.aC (.seq .n (.seq (.seq .n (.aC (.loop [2,3,4,7,8,10,11,12,13,14,15,22,24,25,26] [3,4] (.seq (.seq .n (.cond .n .n)) (.seq (.aC (.seq (.ord 0) (.cond (.seq .n (.seq (.seq (.ord 0) (.cond (.seq .n .n) .n)) .n)) .n))) .n))))) (.seq .n (.cond (.seq .n .n) .n))))) .n))))) (.seq .n (.seq .n (.aC (.loop [2,3,4,7,8,10,11,12,13,14,15,27,28] [3,4] (.seq (.seq .n (.cond .n .n)) (.seq (.aC (.seq (.ord 0) (.seq .n (.cond (.seq .n .n) .n)))) .n))))))))))))))))) .n))))) (.seq (.seq .n (.aC (.loop [7,8,10,11,30] [] (.seq (.seq .n (.cond .n .n)) (.seq (.aC (.seq (.ord 77371252455336267181195264) (.seq (.ord 0) (.cond (.seq .n .n) .n)))) .n))))) (.seq .n .n))))))))))))) Tryz.f3 P3 (a0,a1,a2,()) R3 H K) h)
def df:TypeId→Option AK
 |133=>some ((.cons (.own (.cons (.one .bool) (.cons (.row aj) (.cons (.row (.row .byte)) (.cons (.row (.one (.int .i64))) (.one (.int .i64)))))) 90) (.cons (.own (.one .bool) 4) (.own (.one (.int .i64)) 3))))
 |92=>some ((.cons .ref (.cons (.one (.int .i64)) (.cons (.one (.int .i64)) (.one (.int .i64))))))
 |224=>some ((.cons .ref (.cons (.cons (.one .bool) (.cons (.row aj) (.cons (.row (.row .byte)) (.cons (.row (.one (.int .i64))) (.one (.int .i64)))))) (.cons (.cons (.one .bool) (.cons (.row aj) (.cons (.row (.row .byte)) (.cons (.row (.one (.int .i64))) (.one (.int .i64)))))) (.cons (.cons (.one .bool) (.cons (.row aj) (.cons (.row (.row .byte)) (.cons (.row (.one (.int .i64))) (.one (.int .i64)))))) (.cons (.one (.int .i64)) (.cons (.one (.int .i64)) (.cons (.one (.int .i64)) (.one (.int .i64))))))))))
 |210=>some ((.cons .ref (.cons (.row .byte) (.cons (.row .byte) k_))))
 |192=>some (k_)
 |95=>some ((.one .sl))
 |3=>some ((.one (.int .i64)))
 |37=>some (aM)
 |101=>some (iP)
 |97=>some (j4)
 |77=>some (ik)
 |_=>none
def dg:FuncId→Option oW
 |16=>some ⟨VP,IQ,0⟩
 |17=>some ⟨P17,R17,2⟩
 |18=>some ⟨P18,R18,2⟩
 |19=>some ⟨P19,R19,2⟩
 |20=>some ⟨P20,M4,0⟩
 |21=>some ⟨P21,R21,2⟩
 |22=>some ⟨M5,Ej,0⟩
 |23=>some ⟨P23,VR,1⟩
 |24=>some ⟨P24,R24,2⟩
 |25=>some ⟨P25,R25,2⟩
 |26=>some ⟨P26,R26,2⟩
 |27=>some ⟨P27,R27,2⟩
 |28=>some ⟨P28,VS,1⟩
 |30=>some ⟨P30,R30,2⟩
 |32=>some ⟨QW,F1,0⟩
 |35=>some ⟨QX,M_,0⟩
 |38=>some ⟨VU,IT,0⟩
 |39=>some ⟨P39,VV,1⟩
 |41=>some ⟨P41,ZH,2⟩
 |46=>some ⟨P46,VY,1⟩
 |47=>some ⟨P47,R47,2⟩
 |48=>some ⟨P48,QZ,1⟩
 |49=>some ⟨P49,R49,2⟩
 |50=>some ⟨P50,VZ,1⟩
 |51=>some ⟨P51,R51,2⟩
 |52=>some ⟨P52,R52,2⟩
 |53=>some ⟨P53,R53,2⟩
 |60=>some ⟨P60,Nc,0⟩
 |65=>some ⟨P65,R65,2⟩
 |66=>some ⟨P66,R66,2⟩
 |69=>some ⟨P69,R69,2⟩
 |70=>some ⟨P70,R70,2⟩
 |71=>some ⟨P71,V5,1⟩
 |72=>some ⟨P72,V6,1⟩
 |73=>some ⟨P73,V7,1⟩
 |74=>some ⟨P74,R74,2⟩
 |83=>some ⟨P83,Nj,0⟩
 |84=>some ⟨P84,R84,2⟩
 |85=>some ⟨P85,Wa,1⟩
 |86=>some ⟨P86,Nk,0⟩
 |87=>some ⟨P87,R87,2⟩
 |94=>some ⟨P94,R94,2⟩
 |98=>some ⟨P98,R98,2⟩
 |99=>some ⟨P99,R99,2⟩
 |_=>none
theorem b8:Tryz.prog.follows .mixedOrders=true:=by kernel_rfl
def A5 (a0:Int) (a1:aq) (a2:tCF) (H:HP) (K:HT R5→HP→Prop):Prop:=
 af (decide (a0<0)) (K (none,.iface 62 (.int .i64 1),()) H) (VQ (a1.1,a1.2) fun(x1:VM)=>af (! x1.1) (K (none,.iface 62 (.int .i64 1),()) H) (af (decide (a2.2.2.2.1<1)) (K (none,.iface 62 (.int .i64 1),()) H) (af (decide (a2.2.2.2.1>1000)) (K (none,.iface 62 (.int .i64 1),()) H) (C17 a2.2.2.1 H fun(x2:T17) H3=>((cB x2.2.1:Bool)=true)∧(af (! (bj x2.2.1)) (K (none,x2.2.1,()) H3) (C18 a2.2.1 H3 fun(x4:T18) H5=>((cB x4.2.1:Bool)=true)∧(af (! (bj x4.2.1)) (K (none,x4.2.1,()) H5) (C19 a2.2.2.2.2.1 H5 fun(x6:T19) H7=>((cB x6.2.1:Bool)=true)∧(af (! (bj x6.2.1)) (K (none,x6.2.1,()) H7) (Q20 (a1.1,a1.2) fun(x8:T20)=>C21 H7 fun(x9:T21) sN=>pd ik (a0,(x8.1.1,x8.1.2),(a2.1,a2.2.1,a2.2.2.1,a2.2.2.2.1,a2.2.2.2.2.1,a2.2.2.2.2.2),x2.1,x4.1,x6.1,x9.1,0,0) sN fun i11 qA=>K (some i11,.nilIface,()) qA))))))))))
theorem afc (a0 a1 a2 H K) (h:A5 a0 a1 a2 H K):C5 a0 a1 a2 H K:=
 aa b8 Tryz.func5 (Eq.mp (by kernel_rfl:A5 a0 a1 a2 H K=bq ⟨Tryz.prog,dg,df,[],eD⟩ ⟨[(7,.one .any),(9,.one .any),(29,.one .any),(35,.one .any),(36,.one .any),(38,.one .any),(44,.one .any),(45,.one .any),(47,.one .any),(53,.one .any),(54,.one .any),(56,.one .any)],[]⟩ (.seq .n (.seq (.seq .n (.cond (.seq .n .n) .n)) (.seq .n (.seq (.seq .n (.cond (.seq .n .n) .n)) (.seq .n (.seq (.seq .n (.cond (.seq .n .n) .n)) (.seq .n (.seq (.seq .n (.cond (.seq .n .n) .n)) (.seq (.ord 0) (.gh [.cls 66 ik] .n)))))))))) Tryz.f5 P5 (a0,a1,a2,()) R5 H K) h)
def A20 (a0:aq) (H:HP) (K:HT M4→HP→Prop):Prop:=
 oI a0.1 fun(l1:od)=>oI a0.2 fun(l2:od)=>K ((l1.1,l2.1),()) H
theorem XH (a0 H K) (h:A20 a0 H K):C20 a0 H K:=
 aa b8 Tryz.func20 (Eq.mp (by kernel_rfl:A20 a0 H K=bq ⟨Tryz.prog,dg,df,[],eD⟩ ⟨[(4,.row .byte),(5,.row .byte),(7,.row .byte),(8,.row .byte)],[]⟩ (.seq .n (.seq (.ord 2361183241434822606848) .n)) Tryz.f20 P20 (a0,()) M4 H K) h)
theorem afd (a0) {r} (h:∀H K,K r H→A20 a0 H K):S20 a0 r:=fun H K hk=>XH a0 H K (h H K hk)
def A23 (a0:Option Nat) (a1:aO) (H:HP) (K:HT VR→HP→Prop):Prop:=
 af ((a1.2.2.1:Int)!=6) (ao a0 fun i1=>aJ ik i1 H fun(x2:ky)=>Q38 (x2.2.1.1,x2.2.1.2) a1.2.2.2.1 fun(x3:T38)=>K (x3.1,()) H) (Z39 a0 (a1.1,a1.2.1,a1.2.2.1,a1.2.2.2.1,a1.2.2.2.2.1,a1.2.2.2.2.2.1,a1.2.2.2.2.2.2.1,a1.2.2.2.2.2.2.2) H fun(x4:T39)=>K (x4.2.1,()) H)
theorem XI (a0 a1 H K) (h:A23 a0 a1 H K):C23 a0 a1 H K:=
 aa b8 Tryz.func23 (Eq.mp (by kernel_rfl:A23 a0 a1 H K=bq ⟨Tryz.prog,dg,df,[],eD⟩ ⟨[(15,.row .byte)],[]⟩ (.seq .n (.seq (.seq .n (.cond (.seq (.ord 0) .n) .n)) (.seq .n (.seq .n .n)))) Tryz.f23 P23 (a0,a1,()) VR H K) h)
def A39 (a0:Option Nat) (a1:aO) (H:HP) (K:HT VV→HP→Prop):Prop:=
 ao a0 fun i1=>aJ ik i1 H fun(x2:ky)=>Q60 (x2.2.1.1,x2.2.1.2) (a1.2.2.2.1,a1.2.2.2.2.2.2.1) fun(x3:T60)=>K ((x3.1.1,x3.1.2),x3.2.1,()) H
theorem XJ (a0 a1 H K) (h:A39 a0 a1 H K):C39 a0 a1 H K:=
 aa b8 Tryz.func39 (Eq.mp (by kernel_rfl:A39 a0 a1 H K=bq ⟨Tryz.prog,dg,df,[],eD⟩ ⟨[(11,.row .byte),(13,.row .byte)],[]⟩ (.seq .n (.seq (.ord 75557863725914323419136) .n)) Tryz.f39 P39 (a0,a1,()) VV H K) h)
def A60 (a0:aq) (a1:aq) (H:HP) (K:HT Nc→HP→Prop):Prop:=
 VQ (a0.1,a0.2) fun(x1:VM)=>af (! x1.1) (K (([],[]),false,()) H) (VQ (a1.1,a1.2) fun(x2:VM)=>af (! x2.1) (K (([],[]),false,()) H) (bE (V:=(Unit×Unit×Unit×Unit)×(List UInt8×List UInt8×Unit)×(List UInt8×List UInt8×Unit)×(List UInt8×List UInt8×Unit)×Unit) (fun x3 H4=>bE (V:=(Unit×Unit×Unit)×(List UInt8×List UInt8×Unit)×(List UInt8×List UInt8×Unit)×Unit) (fun x5 H6=>VQ (x5.2.1.1,x5.2.1.2.1) fun(x7:VM)=>af (! x7.1) (K (([],[]),false,()) H6) (Q83 x5.2.1.1 x5.2.1.2.1 fun(x8:T83)=>K ((x8.1.1,x8.1.2),true,()) H6)) fun B9=>bE (V:=(Unit×Unit×Unit×Bool×Unit)×(List UInt8×List UInt8×Unit)×(List UInt8×List UInt8×Unit)×(List UInt8×List UInt8×Unit)×Unit) (fun bp oX=>af bp.1.2.2.2.1 (B9 (((),(),()),(bp.2.1.1,bp.2.2.1.2.1,()),(bp.2.2.2.1.1,bp.2.2.2.1.2.1,()),()) oX) (B9 (((),(),()),(bp.2.1.1,bp.2.1.2.1,()),(bp.2.2.2.1.1,bp.2.2.2.1.2.1,()),()) oX)) fun Q8=>aP x3.2.1.2.1.length fun vT=>af (vT==0) (Q8 (((),(),(),true,()),(x3.2.1.1,x3.2.1.2.1,()),(x3.2.2.1.1,x3.2.2.1.2.1,()),(x3.2.2.2.1.1,x3.2.2.2.1.2.1,()),()) H4) (aP x3.2.2.1.2.1.length fun Wd=>af (decide (Wd>0)) (M8 x3.2.2.1.2.1 x3.2.1.2.1 fun(dG:MY)=>Q8 (((),(),(),decide (dG.1<0),()),(x3.2.1.1,x3.2.1.2.1,()),(x3.2.2.1.1,x3.2.2.1.2.1,()),(x3.2.2.2.1.1,x3.2.2.2.1.2.1,()),()) H4) (Q8 (((),(),(),false,()),(x3.2.1.1,x3.2.1.2.1,()),(x3.2.2.1.1,x3.2.2.1.2.1,()),(x3.2.2.2.1.1,x3.2.2.2.1.2.1,()),()) H4))) fun We=>M8 a0.1 a1.1 fun(gO:MY)=>af (decide (gO.1<0)) (We (((),(),(),()),(a1.1,a0.2,()),(a1.1,a1.2,()),([],[],()),()) H) (We (((),(),(),()),(a0.1,a0.2,()),(a1.1,a1.2,()),([],[],()),()) H)))
theorem XK (a0 a1 H K) (h:A60 a0 a1 H K):C60 a0 a1 H K:=
 aa b8 Tryz.func60 (Eq.mp (by kernel_rfl:A60 a0 a1 H K=bq ⟨Tryz.prog,dg,df,[],eD⟩ ⟨[(16,.row .byte),(18,.row .byte),(22,.row .byte),(25,.row .byte),(30,.row .byte),(35,.row .byte),(37,.row .byte),(43,.row .byte),(50,.row .byte),(52,.row .byte)],[]⟩ (.seq .n (.seq (.seq .n (.cond (.seq .n .n) .n)) (.join [(2,.v (.bx 2 0)),(3,.v (.bx 3 0)),(4,.v (.bx 4 0))] [(2,[.row .byte,.row .byte]),(3,[.row .byte,.row .byte]),(4,[.row .byte,.row .byte])] (.seq .n (.cond .n .n)) (.join [(2,.v (.bx 2 0)),(4,.v (.bx 4 0))] [(2,[.row .byte,.row .byte]),(4,[.row .byte,.row .byte])] (.join [(2,.v (.bx 2 0)),(3,.v (.bx 3 0)),(4,.v (.bx 4 0)),(41,.v (.one .bool))] [(2,[.row .byte,.row .byte]),(3,[.row .byte,.row .byte]),(4,[.row .byte,.row .byte])] .n (.cond .n .n)) (.seq (.seq .n (.cond (.seq .n .n) .n)) (.seq .n .n)))))) Tryz.f60 P60 (a0,a1,()) Nc H K) h)
theorem afe (a0 a1) {r} (h:∀H K,K r H→A60 a0 a1 H K):S60 a0 a1 r:=fun H K hk=>XK a0 a1 H K (h H K hk)
def A83 (a0:List UInt8) (a1:List UInt8) (H:HP) (K:HT Nj→HP→Prop):Prop:=
 oI a0 fun(l1:od)=>oI a1 fun(l2:od)=>K ((l1.1,l2.1),()) H
theorem XL (a0 a1 H K) (h:A83 a0 a1 H K):C83 a0 a1 H K:=
 aa b8 Tryz.func83 (Eq.mp (by kernel_rfl:A83 a0 a1 H K=bq ⟨Tryz.prog,dg,df,[],eD⟩ ⟨[(0,.row .byte),(1,.row .byte),(5,.row .byte),(6,.row .byte),(7,.row .byte),(8,.row .byte)],[]⟩ (.seq .n (.seq .n .n)) Tryz.f83 P83 (a0,a1,()) Nj H K) h)
theorem aff (a0 a1) {r} (h:∀H K,K r H→A83 a0 a1 H K):S83 a0 a1 r:=fun H K hk=>XL a0 a1 H K (h H K hk)
def A8 (a0:Option Nat) (a1:aO) (H:HP) (K:HT R8→HP→Prop):Prop:=
 ao a0 fun i1=>aJ ik i1 H fun(x2:ky)=>af ((x2.2.2.2.2.2.2.2.1:Int)==3) (K (0,.iface 62 (.int .i64 9),()) H) (Q22 (a1.1,a1.2.1,a1.2.2.1,a1.2.2.2.1,a1.2.2.2.2.1,a1.2.2.2.2.2.1,a1.2.2.2.2.2.2.1,a1.2.2.2.2.2.2.2) fun(x3:T22)=>af (! x3.1) (K (0,.iface 62 (.int .i64 1),()) H) (Z23 a0 (a1.1,a1.2.1,a1.2.2.1,a1.2.2.2.1,a1.2.2.2.2.1,a1.2.2.2.2.2.1,a1.2.2.2.2.2.2.1,a1.2.2.2.2.2.2.2) H fun(x4:T23)=>af (! x4.1) (K (0,.iface 62 (.int .i64 6),()) H) (ao a0 fun i5=>aJ ik i5 H fun(x6:ky)=>C24 x6.2.2.2.2.1 (a1.1,a1.2.1,a1.2.2.1,a1.2.2.2.1,a1.2.2.2.2.1,a1.2.2.2.2.2.1,a1.2.2.2.2.2.2.1,a1.2.2.2.2.2.2.2) H fun(x7:T24) H8=>K (x7.1,x7.2.1,()) H8)))
theorem afg (a0 a1 H K) (h:A8 a0 a1 H K):C8 a0 a1 H K:=
 aa b8 Tryz.func8 (Eq.mp (by kernel_rfl:A8 a0 a1 H K=bq ⟨Tryz.prog,dg,df,[],eD⟩ ⟨[(5,.one .any),(12,.one .any),(17,.one .any),(23,.one .any),(31,.one .any)],[]⟩ (.seq .n (.seq (.aC (.seq .n (.cond (.seq .n .n) (.seq .n (.cond (.seq .n .n) (.seq .n (.cond (.seq .n .n) .n))))))) (.seq (.ord 0) .n))) Tryz.f8 P8 (a0,a1,()) R8 H K) h)
def A13 (a0:Option Nat) (a1:Int) (a2:Int) (a3:Int) (H:HP) (K:HT R13→HP→Prop):Prop:=
 ao a0 fun i1=>aJ ik i1 H fun(x2:ky)=>C30 x2.2.2.2.2.1 a1 a2 a3 H fun(x3:T30) H4=>K ((x3.1.1,x3.1.2.1,x3.1.2.2.1,x3.1.2.2.2.1,x3.1.2.2.2.2),x3.2.1,()) H4
theorem XM (a0 a1 a2 a3 H K) (h:A13 a0 a1 a2 a3 H K):C13 a0 a1 a2 a3 H K:=
 aa b8 Tryz.func13 (Eq.mp (by kernel_rfl:A13 a0 a1 a2 a3 H K=bq ⟨Tryz.prog,dg,df,[],eD⟩ ⟨[(9,.one .any),(19,.one .any)],[]⟩ (.seq .n (.seq .n .n)) Tryz.f13 P13 (a0,a1,a2,a3,()) R13 H K) h)
def A11 (a0:Option Nat) (H:HP) (K:HT R11→HP→Prop):Prop:=
 ao a0 fun i1=>aJ ik i1 H fun(x2:ky)=>Z28 x2.2.2.2.1 H fun(x3:T28)=>K (x3.1,()) H
theorem XN (a0 H K) (h:A11 a0 H K):VO a0 H K:=
 aa b8 Tryz.func11 (Eq.mp (by kernel_rfl:A11 a0 H K=bq ⟨Tryz.prog,dg,df,[],eD⟩ ⟨[(2,.row aj),(7,.row aj)],[]⟩ (.seq .n (.seq .n .n)) Tryz.f11 P11 (a0,()) R11 H K) h)
def A51 (a0:Option Nat) (H:HP) (K:HT R51→HP→Prop):Prop:=
 ao a0 fun i1=>aJ ik i1 H fun(x2:ky)=>Z71 x2.2.2.2.2.1 H fun(x3:T71)=>a9 (V:=(Option Nat×Int×Int×Unit)×Unit) ((a0,x3.1,0,()),()) H fun x4 H5 B6=>af (decide (x4.1.2.2.1<x4.1.2.1)) (ao x4.1.1 fun i7=>aJ ik i7 H5 fun(x8:ky)=>Z72 x8.2.2.2.2.1 x4.1.2.2.1 H5 fun(x9:T72)=>((cB x9.2.1:Bool)=true)∧(af (bj x9.2.1) (ao x4.1.1 fun i10=>aJ ik i10 H5 fun(br:ky)=>Z73 br.2.2.2.2.1 x4.1.2.2.1 H5 fun(bL:T73)=>af ((bL.1:Int)==1) (ao x4.1.1 fun i13=>aJ ik i13 H5 fun(l_:ky)=>af ((l_.2.2.2.2.2.2.2.1:Int)==3) (ao x4.1.1 fun i15=>aJ ik i15 H5 fun(sO:ky)=>C74 sO.2.2.2.2.1 x4.1.2.2.1 H5 fun(gO:T74) IW=>((cB gO.1:Bool)=true)∧(K (bj gO.1,()) IW)) (Z23 x4.1.1 (x9.1.1,x9.1.2.1,x9.1.2.2.1,x9.1.2.2.2.1,x9.1.2.2.2.2.1,x9.1.2.2.2.2.2.1,x9.1.2.2.2.2.2.2.1,x9.1.2.2.2.2.2.2.2) H5 fun(c8:T23)=>af (! c8.1) (ao x4.1.1 fun i20=>aJ ik i20 H5 fun(oZ:ky)=>C74 oZ.2.2.2.2.1 x4.1.2.2.1 H5 fun(kK:T74) El=>((cB kK.1:Bool)=true)∧(K (bj kK.1,()) El)) (B6 ((x4.1.1,x4.1.2.1,IntKind.i64.wrap (x4.1.2.2.1+1),()),()) H5))) (B6 ((x4.1.1,x4.1.2.1,IntKind.i64.wrap (x4.1.2.2.1+1),()),()) H5)) (B6 ((x4.1.1,x4.1.2.1,IntKind.i64.wrap (x4.1.2.2.1+1),()),()) H5))) (K (false,()) H5)
theorem XO (a0 H K) (h:A51 a0 H K):C51 a0 H K:=
 aa b8 Tryz.func51 (Eq.mp (by kernel_rfl:A51 a0 H K=bq ⟨Tryz.prog,dg,df,[],eD⟩ ⟨[(5,.one .any),(22,.one .any),(23,.one .any),(52,.one .any)],[]⟩ (.seq .n (.seq (.seq .n (.aC (.loop [0,10,11] [] (.seq .n (.seq (.cond .n .n) (.seq (.aC (.seq .n (.seq .n (.seq .n (.cond (.seq .n .n) .n))))) .n)))))) (.seq .n .n))) Tryz.f51 P51 (a0,()) R51 H K) h)
def A50 (a0:Option Nat) (H:HP) (K:HT VZ→HP→Prop):Prop:=
 ao a0 fun i1=>aJ ik i1 H fun(x2:ky)=>Z71 x2.2.2.2.2.1 H fun(x3:T71)=>a9 (V:=(Option Nat×List Int×(List aO)×Int×Int×Unit)×Unit) ((a0,[],[],x3.1,0,()),()) H fun x4 H5 B6=>af (decide (x4.1.2.2.2.2.1<x4.1.2.2.2.1)) (ao x4.1.1 fun i7=>aJ ik i7 H5 fun(x8:ky)=>Z72 x8.2.2.2.2.1 x4.1.2.2.2.2.1 H5 fun(x9:T72)=>bE (V:=(Option Nat×List Int×(List aO)×Int×Unit×Int×Int×Bool×Unit)×(Int×Int×Int×List UInt8×List UInt8×List UInt8×List UInt8×Int×Unit)×Unit) (fun bp oX=>af bp.1.2.2.2.2.2.2.2.1 (cR bp.1.2.1.length 1 8 (cR bp.1.2.2.1.length 1 128 (B6 ((bp.1.1,bp.1.2.1++[bp.1.2.2.2.1],bp.1.2.2.1++[(bp.2.1.1,bp.2.1.2.1,bp.2.1.2.2.1,bp.2.1.2.2.2.1,bp.2.1.2.2.2.2.1,bp.2.1.2.2.2.2.2.1,bp.2.1.2.2.2.2.2.2.1,bp.2.1.2.2.2.2.2.2.2.1)],bp.1.2.2.2.2.2.1,IntKind.i64.wrap (bp.1.2.2.2.2.2.2.1+1),()),()) oX))) (B6 ((bp.1.1,bp.1.2.1,bp.1.2.2.1,bp.1.2.2.2.2.2.1,IntKind.i64.wrap (bp.1.2.2.2.2.2.2.1+1),()),()) oX)) fun Q8=>((cB x9.2.1:Bool)=true)∧(af (bj x9.2.1) (ao x4.1.1 fun i13=>aJ ik i13 H5 fun(l_:ky)=>Z73 l_.2.2.2.2.1 x4.1.2.2.2.2.1 H5 fun(dG:T73)=>Q8 ((x4.1.1,x4.1.2.1,x4.1.2.2.1,x4.1.2.2.2.2.1,(),x4.1.2.2.2.1,x4.1.2.2.2.2.1,(dG.1:Int)==2,()),(x9.1.1,x9.1.2.1,x9.1.2.2.1,x9.1.2.2.2.1,x9.1.2.2.2.2.1,x9.1.2.2.2.2.2.1,x9.1.2.2.2.2.2.2.1,x9.1.2.2.2.2.2.2.2,()),()) H5) (Q8 ((x4.1.1,x4.1.2.1,x4.1.2.2.1,x4.1.2.2.2.2.1,(),x4.1.2.2.2.1,x4.1.2.2.2.2.1,false,()),(x9.1.1,x9.1.2.1,x9.1.2.2.1,x9.1.2.2.2.1,x9.1.2.2.2.2.1,x9.1.2.2.2.2.2.1,x9.1.2.2.2.2.2.2.1,x9.1.2.2.2.2.2.2.2,()),()) H5))) (K (x4.1.2.1,x4.1.2.2.1,()) H5)
theorem XP (a0 H K) (h:A50 a0 H K):C50 a0 H K:=
 aa b8 Tryz.func50 (Eq.mp (by kernel_rfl:A50 a0 H K=bq ⟨Tryz.prog,dg,df,[],eD⟩ ⟨[(2,.own (.one (.int .i64)) 3),(3,.own aM 37),(4,.own (.one (.int .i64)) 3),(5,.own aM 37),(8,.one .any),(25,.one .any),(26,.one .any),(37,.own (.one (.int .i64)) 3),(39,.row (.one (.int .i64))),(40,.own (.one (.int .i64)) 3),(41,.own aM 37),(43,.row aM),(44,.own aM 37),(46,.own (.one (.int .i64)) 3),(47,.own aM 37)],[]⟩ (.seq .n (.seq .n (.seq .n (.seq (.seq .n (.aC (.loop [0,4,5,13,14] [] (.seq .n (.seq (.cond .n .n) (.seq (.aC (.seq .n (.seq .n (.join [(0,.v (.ref)),(4,.v (.own (.one (.int .i64)) 3)),(5,.v (.own aM 37)),(6,.v (.one (.int .i64))),(7,.v (.bx 7 0)),(13,.v (.one (.int .i64))),(14,.v (.one (.int .i64))),(36,.v (.one .bool))] [(7,[.one (.int .i64),.one (.int .i64),.one (.int .i64),.row .byte,.row .byte,.row .byte,.row .byte,.one (.int .i64)])] .n (.cond (.ord 0) .n))))) .n)))))) (.seq .n .n))))) Tryz.f50 P50 (a0,()) VZ H K) h)
def A49 (a0:Option Nat) (a1:Int) (a2:kz) (H:HP) (K:HT R49→HP→Prop):Prop:=
 ao a0 fun i1=>aJ ik i1 H fun(x2:ky)=>C69 x2.2.2.2.2.1 a1 (a2.1,a2.2.1,a2.2.2.1,a2.2.2.2.1,a2.2.2.2.2) H fun(x3:T69) H4=>((cB x3.1:Bool)=true)∧(af (! (bj x3.1)) (K (x3.1,()) H4) (ao a0 fun i5=>aJ ik i5 H4 fun(x6:ky)=>C70 x6.2.2.2.2.2.2.1 H4 fun(x7:T70) H8=>K (x7.1,()) H8))
theorem XQ (a0 a1 a2 H K) (h:A49 a0 a1 a2 H K):C49 a0 a1 a2 H K:=
 aa b8 Tryz.func49 (Eq.mp (by kernel_rfl:A49 a0 a1 a2 H K=bq ⟨Tryz.prog,dg,df,[],eD⟩ ⟨[(6,.one .any),(7,.one .any),(14,.one .any),(15,.one .any),(17,.one .any),(22,.one .any)],[]⟩ (.seq .n (.seq (.seq (.ord 0) (.seq .n (.cond (.seq .n .n) .n))) (.seq .n .n))) Tryz.f49 P49 (a0,a1,a2,()) R49 H K) h)
def A84 (a0:Option Nat) (a1:aO) (H:HP) (K:HT R84→HP→Prop):Prop:=
 Z39 a0 (a1.1,a1.2.1,a1.2.2.1,a1.2.2.2.1,a1.2.2.2.2.1,a1.2.2.2.2.2.1,a1.2.2.2.2.2.2.1,a1.2.2.2.2.2.2.2) H fun(x1:T39)=>af (! x1.2.1) (ao a0 fun i2=>aJ ik i2 H fun(x3:ky)=>K ((0,false,[],[],x3.2.2.2.2.2.2.2.2),.nilIface,()) H) (ao a0 fun i4=>aJ ik i4 H fun(x5:ky)=>C94 x5.2.2.2.1 (x1.1.1,x1.1.2) a1.2.2.2.2.2.2.2 H fun(x6:T94) H7=>ao a0 fun i8=>aJ ik i8 H7 fun(x9:ky)=>K ((0,false,[],x6.1,x9.2.2.2.2.2.2.2.2),x6.2.1,()) H7)
theorem XR (a0 a1 H K) (h:A84 a0 a1 H K):C84 a0 a1 H K:=
 aa b8 Tryz.func84 (Eq.mp (by kernel_rfl:A84 a0 a1 H K=bq ⟨Tryz.prog,dg,df,[],eD⟩ ⟨[(5,.one .any),(8,.row aj),(9,.one .any),(32,.row aj),(33,.one .any),(34,.row aj),(40,.one .any)],[]⟩ (.seq .n (.seq .n (.seq (.seq .n (.cond (.seq .n .n) .n)) (.seq (.ord 0) (.seq .n .n))))) Tryz.f84 P84 (a0,a1,()) R84 H K) h)
def A87 (a0:Option Nat) (a1:List UInt8) (a2:(List kz)×Bool×List UInt8×Bool) (H:HP) (K:HT R87→HP→Prop):Prop:=
 af (! a2.2.2.2) (K (.nilIface,()) H) (ao a0 fun i1=>aJ ik i1 H fun(x2:ky)=>ao a0 fun i3=>aJ ik i3 H fun(x4:ky)=>af a2.2.1 (ao a0 fun i5=>aJ ik i5 (H.set i3 ik (x4.1,x4.2.1,x4.2.2.1,x4.2.2.2.1,x4.2.2.2.2.1,x4.2.2.2.2.2.1,x4.2.2.2.2.2.2.1,x4.2.2.2.2.2.2.2.1,IntKind.u64.wrap (x2.2.2.2.2.2.2.2.2+1))) fun(x6:ky)=>C98 x6.2.2.2.1 a1 a2.2.2.1 (H.set i3 ik (x4.1,x4.2.1,x4.2.2.1,x4.2.2.2.1,x4.2.2.2.2.1,x4.2.2.2.2.2.1,x4.2.2.2.2.2.2.1,x4.2.2.2.2.2.2.2.1,IntKind.u64.wrap (x2.2.2.2.2.2.2.2.2+1))) fun(x7:T98) H8=>K (x7.2.1,()) H8) (ao a0 fun i9=>aJ ik i9 (H.set i3 ik (x4.1,x4.2.1,x4.2.2.1,x4.2.2.2.1,x4.2.2.2.2.1,x4.2.2.2.2.2.1,x4.2.2.2.2.2.2.1,x4.2.2.2.2.2.2.2.1,IntKind.u64.wrap (x2.2.2.2.2.2.2.2.2+1))) fun(bp:ky)=>C99 bp.2.2.2.1 a1 (H.set i3 ik (x4.1,x4.2.1,x4.2.2.1,x4.2.2.2.1,x4.2.2.2.2.1,x4.2.2.2.2.2.1,x4.2.2.2.2.2.2.1,x4.2.2.2.2.2.2.2.1,IntKind.u64.wrap (x2.2.2.2.2.2.2.2.2+1))) fun(br:T99) qA=>K (br.2.1,()) qA))
theorem XS (a0 a1 a2 H K) (h:A87 a0 a1 a2 H K):C87 a0 a1 a2 H K:=
 aa b8 Tryz.func87 (Eq.mp (by kernel_rfl:A87 a0 a1 a2 H K=bq ⟨Tryz.prog,dg,df,[],eD⟩ ⟨[(1,.row .byte),(6,.one .any),(8,.one .any),(10,.one .any),(28,.row .byte),(30,.row .byte),(33,.one .any),(34,.one .any),(40,.row .byte),(43,.one .any),(44,.one .any)],[]⟩ (.seq .n (.seq (.seq .n (.cond (.seq .n .n) .n)) (.seq .n (.seq (.seq .n (.cond (.seq (.ord 0) (.seq .n .n)) .n)) (.seq .n (.seq .n .n)))))) Tryz.f87 P87 (a0,a1,a2,()) R87 H K) h)
def A65 (a0:Option Nat) (a1:List aO) (H:HP) (K:HT R65→HP→Prop):Prop:=
 bT a1 0 fun(x1:aO)=>af ((x1.2.2.1:Int)==6) (bT a1 0 fun(x2:aO)=>C84 a0 (x2.1,x2.2.1,x2.2.2.1,x2.2.2.2.1,x2.2.2.2.2.1,x2.2.2.2.2.2.1,x2.2.2.2.2.2.2.1,x2.2.2.2.2.2.2.2) H fun(x3:T84) H4=>K ([(x3.1.1,x3.1.2.1,x3.1.2.2.1,x3.1.2.2.2.1,x3.1.2.2.2.2)],x3.2.1,()) H4) (ao a0 fun i5=>aJ ik i5 H fun(x6:ky)=>bT a1 0 fun(x7:aO)=>Z85 x6.2.2.2.1 x7.2.2.2.1 H fun(l8:T85)=>ao a0 fun i9=>aJ ik i9 H fun(bp:ky)=>ao bp.2.2.2.1 fun i11=>aJ (.cons .ref (.cons (.one (.int .i64)) (.cons (.one (.int .i64)) (.one (.int .i64))))) i11 H fun(bL:Option Nat×Int×Int×Int)=>ao a0 fun i13=>aJ ik i13 H fun(l_:ky)=>Q86 l8.2.1 l8.1 (decide (bL.2.2.2<l_.2.2.1.2.2.2.1)) a1 fun(dG:T86)=>((cB dG.2.1:Bool)=true)∧(af (! (bj dG.2.1)) (K ([],dG.2.1,()) H) (bT a1 0 fun(sO:aO)=>C87 a0 sO.2.2.2.1 (dG.1.1,dG.1.2.1,dG.1.2.2.1,dG.1.2.2.2) H fun(gO:T87) IW=>K (dG.1.1,gO.1,()) IW)))
theorem XT (a0 a1 H K) (h:A65 a0 a1 H K):C65 a0 a1 H K:=
 aa b8 Tryz.func65 (Eq.mp (by kernel_rfl:A65 a0 a1 H K=bq ⟨Tryz.prog,dg,df,[],eD⟩ ⟨[(1,.row aM),(4,.row dH),(5,.one .any),(7,.one .any),(8,.row .byte),(11,.one .any),(12,.row aM),(19,.row aM),(24,.one .any),(26,.row dH),(27,.one .any),(33,.row aM),(36,.row .byte),(38,.row .byte),(42,.row .byte),(56,.row aM),(59,.one .any),(60,.one .any),(62,.one .any),(64,.row dH),(66,.row aM),(69,.row .byte),(71,.one .any)],[]⟩ (.seq .n (.seq (.seq .n (.cond (.seq .n (.seq .n .n)) .n)) (.seq (.ord 0) (.seq (.ord 38685626227668133590597632) (.seq (.seq .n (.cond (.seq .n .n) .n)) (.seq (.ord 0) .n)))))) Tryz.f65 P65 (a0,a1,()) R65 H K) h)
def A47 (a0:Option Nat) (a1:List aO) (H:HP) (K:HT R47→HP→Prop):Prop:=
 C65 a0 a1 H fun(x1:T65) H2=>((cB x1.2.1:Bool)=true)∧(af (! (bj x1.2.1)) (K ([],x1.2.1,()) H2) (ao a0 fun i3=>aJ ik i3 H2 fun(x4:ky)=>C66 x4.2.2.2.2.2.2.1 x1.1 H2 fun(x5:T66) H6=>((cB x5.1:Bool)=true)∧(af (! (bj x5.1)) (K ([],x5.1,()) H6) (aP a1.length fun n7=>a9 (V:=((List kz)×(List (aO×Int×Bool×List UInt8×(List aq)×Int))×(List aO)×Int×Int×Unit)×Unit) ((x1.1,[],a1,n7,0,()),()) H6 fun x8 H9 En=>af (decide (x8.1.2.2.2.2.1<x8.1.2.2.2.1)) (bT x8.1.2.2.1 x8.1.2.2.2.2.1 fun(br:aO)=>bT x8.1.1 x8.1.2.2.2.2.1 fun(bL:kz)=>cR x8.1.2.1.length 1 200 (En ((x8.1.1,x8.1.2.1++[((br.1,br.2.1,br.2.2.1,br.2.2.2.1,br.2.2.2.2.1,br.2.2.2.2.2.1,br.2.2.2.2.2.2.1,br.2.2.2.2.2.2.2),bL.1,bL.2.1,bL.2.2.1,bL.2.2.2.1,bL.2.2.2.2)],x8.1.2.2.1,x8.1.2.2.2.1,IntKind.i64.wrap (x8.1.2.2.2.2.1+1),()),()) H9)) (K (x8.1.2.1,.nilIface,()) H9)))))
theorem XU (a0 a1 H K) (h:A47 a0 a1 H K):C47 a0 a1 H K:=
 aa b8 Tryz.func47 (Eq.mp (by kernel_rfl:A47 a0 a1 H K=bq ⟨Tryz.prog,dg,df,[],eD⟩ ⟨[(1,.row aM),(4,.own (.cons aM dH) 49),(5,.one .any),(6,.row dH),(7,.one .any),(8,.one .any),(9,.own (.cons aM dH) 49),(14,.row aM),(16,.row dH),(17,.one .any),(18,.one .any),(20,.one .any),(25,.row dH),(26,.one .any),(27,.one .any),(29,.one .any),(30,.row aM),(37,.own (.cons aM dH) 49),(39,.row dH),(44,.row (.cons aM dH)),(45,.own (.cons aM dH) 49),(47,.own (.cons aM dH) 49)],[]⟩ (.seq .n (.seq .n (.seq (.seq .n (.cond (.seq .n .n) .n)) (.seq (.seq .n (.seq .n (.cond (.seq .n .n) .n))) (.seq .n (.seq (.seq .n (.aC (.loop [6,9,30,31,32] [] (.seq .n (.seq (.cond .n .n) (.seq (.aC (.seq .n (.ord 0))) .n)))))) (.seq .n .n))))))) Tryz.f47 P47 (a0,a1,()) R47 H K) h)
def A26 (a0:Option Nat) (H:HP) (K:HT R26→HP→Prop):Prop:=
 ao a0 fun i1=>aJ ik i1 H fun(x2:ky)=>Z46 x2.2.2.2.2.2.2.1 H fun(x3:T46)=>aP x3.1.length fun n4=>af (decide (n4>0)) (C47 a0 x3.1 H fun(x5:T47) H6=>K (1,x5.1,x5.2.1,()) H6) (ao a0 fun i7=>aJ ik i7 H fun(x8:ky)=>Z48 x8.2.2.2.2.2.2.1 H fun(x9:T48)=>af x9.2.2.1 (C49 a0 x9.1 (x9.2.1.1,x9.2.1.2.1,x9.2.1.2.2.1,x9.2.1.2.2.2.1,x9.2.1.2.2.2.2) H fun(bp:T49) oX=>K (2,[],bp.1,()) oX) (Z50 a0 H fun(Bt:T50)=>bE (V:=(Option Nat×List Int×(List aO)×Unit)×Unit) (fun fG F5=>aP fG.1.2.1.length fun n15=>af (decide (n15>0)) (ao fG.1.1 fun i16=>aJ ik i16 F5 fun(gO:ky)=>C53 gO.2.2.2.2.2.2.1 fG.1.2.1 fG.1.2.2.1 F5 fun(d_:T53) AI=>K (5,[],d_.1,()) AI) (K (0,[],.nilIface,()) F5)) fun B20=>ao a0 fun i21=>aJ ik i21 H fun(kK:ky)=>af ((kK.2.2.2.2.2.2.2.1:Int)!=1) (C51 a0 H fun(gw:T51) Ek=>af gw.1 (K (3,[],.nilIface,()) Ek) (ao a0 fun i25=>aJ ik i25 Ek fun(gv:ky)=>C41 gv.2.2.2.2.1 1 Ek fun(cr:T41) IZ=>af (decide (cr.1≥0)) (aP Bt.1.length fun n29=>af (decide (n29<32)) (ao a0 fun i30=>aJ ik i30 IZ fun(Bp:ky)=>C52 Bp.2.2.2.2.1 cr.1 IZ fun(N1:T52) Wg=>K (4,[],N1.1,()) Wg) (B20 ((a0,Bt.1,Bt.2.1,()),()) IZ)) (B20 ((a0,Bt.1,Bt.2.1,()),()) IZ))) (B20 ((a0,Bt.1,Bt.2.1,()),()) H)))
theorem XV (a0 H K) (h:A26 a0 H K):C26 a0 H K:=
 aa b8 Tryz.func26 (Eq.mp (by kernel_rfl:A26 a0 H K=bq ⟨Tryz.prog,dg,df,[],eD⟩ ⟨[(3,.row (.cons aM dH)),(4,.one .any),(5,.row aM),(6,.row (.cons aM dH)),(7,.one .any),(11,.row (.one (.int .i64))),(12,.row aM),(18,.row aM),(19,.row aM),(24,.row aM),(26,.row (.cons aM dH)),(27,.one .any),(28,.row (.cons aM dH)),(29,.one .any),(43,.one .any),(47,.row (.one (.int .i64))),(48,.row aM),(64,.row (.one (.int .i64))),(73,.one .any),(74,.row (.one (.int .i64))),(81,.row (.one (.int .i64))),(82,.row aM),(83,.one .any)],[]⟩ (.seq .n (.seq (.seq .n (.seq .n (.cond (.seq .n (.seq .n .n)) .n))) (.seq (.seq .n (.seq .n (.cond (.seq .n .n) .n))) (.seq .n (.join [(0,.v (.ref)),(11,.v (.row (.one (.int .i64)))),(12,.v (.row aM))] [] (.seq .n (.cond (.seq (.seq .n (.cond (.seq .n .n) .n)) (.seq .n (.seq .n (.cond (.seq .n .n) .n)))) .n)) (.seq (.seq .n (.cond (.seq .n .n) .n)) (.seq .n .n))))))) Tryz.f26 P26 (a0,()) R26 H K) h)
def A9 (a0:Option Nat) (a1:Int) (a2:Int) (H:HP) (K:HT R9→HP→Prop):Prop:=
 ao a0 fun i1=>aJ ik i1 H fun(x2:ky)=>af ((x2.2.2.2.2.2.2.2.1:Int)==3) (K (0,[],.iface 62 (.int .i64 9),()) H) (af ((x2.2.2.2.2.2.2.2.1:Int)==2) (K (0,[],.iface 62 (.int .i64 7),()) H) (ao a0 fun i3=>aJ ik i3 H fun(x4:ky)=>C25 x4.2.2.2.2.2.1 a1 a2 H fun(x5:T25) H6=>((cB x5.2.1:Bool)=true)∧(af (! (bj x5.2.1)) (K (0,[],x5.2.1,()) H6) (C26 a0 H6 fun(x7:T26) H8=>bE (V:=(Value×Int×(List (aO×Int×Bool×List UInt8×(List aq)×Int))×Unit)×Unit) (fun x9 sN=>K (x9.1.2.1,x9.1.2.2.1,x9.1.1,()) sN) fun Ra=>bE (V:=(Option Nat×Int×Int×Value×Int×(List (aO×Int×Bool×List UInt8×(List aq)×Int))×Bool×Unit)×Unit) (fun bL pA=>af bL.1.2.2.2.2.2.2.1 (ao bL.1.1 fun i14=>aJ ik i14 pA fun(dG:ky)=>C27 dG.2.2.2.2.2.1 bL.1.2.1 bL.1.2.2.1 pA fun(sO:T27) H17=>Ra ((sO.1,bL.1.2.2.2.2.1,bL.1.2.2.2.2.2.1,()),()) H17) (Ra ((bL.1.2.2.2.1,bL.1.2.2.2.2.1,bL.1.2.2.2.2.2.1,()),()) pA)) fun Q'=>((cB x7.2.2.1:Bool)=true)∧(af (bj x7.2.2.1) (Q' ((a0,a1,x5.1,x7.2.2.1,x7.1,x7.2.1,(x7.1:Int)==0,()),()) H8) (Q' ((a0,a1,x5.1,x7.2.2.1,x7.1,x7.2.1,false,()),()) H8))))))
theorem afi (a0 a1 a2 H K) (h:A9 a0 a1 a2 H K):C9 a0 a1 a2 H K:=
 aa b8 Tryz.func9 (Eq.mp (by kernel_rfl:A9 a0 a1 a2 H K=bq ⟨Tryz.prog,dg,df,[],eD⟩ ⟨[(7,.row (.cons aM dH)),(8,.one .any),(10,.one .any),(12,.row (.cons aM dH)),(19,.one .any),(22,.one .any),(32,.one .any),(33,.one .any),(35,.one .any),(40,.row (.cons aM dH)),(41,.one .any),(42,.one .any),(54,.one .any),(56,.row (.cons aM dH)),(57,.one .any)],[]⟩ (.seq .n (.seq (.seq .n (.aC (.seq .n (.cond (.seq .n .n) (.seq .n (.cond (.seq .n .n) .n)))))) (.seq .n (.seq (.seq .n (.cond (.seq .n .n) .n)) (.seq .n (.join [(10,.v (.one .any)),(11,.v (.one (.int .i64))),(12,.v (.row (.cons aM dH)))] [] (.join [(0,.v (.ref)),(1,.v (.one (.int .i64))),(9,.v (.one (.int .u64))),(10,.v (.one .any)),(11,.v (.one (.int .i64))),(12,.v (.row (.cons aM dH))),(47,.v (.one .bool))] [] .n (.cond .n .n)) (.seq .n .n))))))) Tryz.f9 P9 (a0,a1,a2,()) R9 H K) h)
def tK:TypeId→Option AK
 |133=>some ((.cons (.own (.cons (.one .bool) (.cons (.row aj) (.cons (.row (.row .byte)) (.cons (.row (.one (.int .i64))) (.one (.int .i64)))))) 90) (.cons (.own (.one .bool) 4) (.own (.one (.int .i64)) 3))))
 |92=>some ((.cons .ref (.cons (.one (.int .i64)) (.cons (.one (.int .i64)) (.one (.int .i64))))))
 |224=>some ((.cons .ref (.cons (.cons (.one .bool) (.cons (.row aj) (.cons (.row (.row .byte)) (.cons (.row (.one (.int .i64))) (.one (.int .i64)))))) (.cons (.cons (.one .bool) (.cons (.row aj) (.cons (.row (.row .byte)) (.cons (.row (.one (.int .i64))) (.one (.int .i64)))))) (.cons (.cons (.one .bool) (.cons (.row aj) (.cons (.row (.row .byte)) (.cons (.row (.one (.int .i64))) (.one (.int .i64)))))) (.cons (.one (.int .i64)) (.cons (.one (.int .i64)) (.cons (.one (.int .i64)) (.one (.int .i64))))))))))
 |210=>some ((.cons .ref (.cons (.row .byte) (.cons (.row .byte) k_))))
 |192=>some (k_)
 |95=>some ((.one .sl))
 |3=>some ((.one (.int .i64)))
 |37=>some (aM)
 |101=>some (iP)
 |97=>some (j4)
 |77=>some (ik)
 |_=>none
def tL:FuncId→Option oW
 |44=>some ⟨P44,Nb,0⟩
 |45=>some ⟨P45,VX,1⟩
 |54=>some ⟨P54,V0,1⟩
 |_=>none
theorem mY:Tryz.prog.follows .mixedOrders=true:=by kernel_rfl
def A19 (a0:Int) (H:HP) (K:HT R19→HP→Prop):Prop:=
 af (decide (a0<1)) (K (none,.iface 62 (.int .i64 1),()) H) (af (decide (a0>1000)) (K (none,.iface 62 (.int .i64 1),()) H) (pd j4 (a0,0,(-1),0) H fun i1 H2=>K (some i1,.nilIface,()) H2))
theorem Xw (a0 H K) (h:A19 a0 H K):C19 a0 H K:=
 aa mY Tryz.func19 (Eq.mp (by kernel_rfl:A19 a0 H K=bq ⟨Tryz.prog,tL,tK,[],eD⟩ ⟨[(3,.one .any),(10,.one .any)],[]⟩ (.seq .n (.seq (.seq .n (.cond (.seq .n .n) .n)) (.seq .n (.gh [.cls 13 j4] .n)))) Tryz.f19 P19 (a0,()) R19 H K) h)
def A25 (a0:Option Nat) (a1:Int) (a2:Int) (H:HP) (K:HT R25→HP→Prop):Prop:=
 Q44 a1 a2 fun(x1:T44)=>af (! x1.1) (K (0,.iface 62 (.int .i64 1),()) H) (Z45 a0 a2 H fun(x2:T45)=>af x2.2.1 (af ((x2.1:Int)!=a1) (K (0,.iface 62 (.int .i64 7),()) H) (bE (V:=(Option Nat×Int×Int×Unit)×Unit) (fun x3 H4=>ao x3.1.1 fun i5=>aJ j4 i5 H4 fun(x6:tJ)=>ao x3.1.1 fun i7=>aJ j4 i7 H4 fun(x8:tJ)=>ao x3.1.1 fun i9=>aJ j4 i9 (H4.set i7 j4 (x8.1,x8.2.1,x3.1.2.1,x8.2.2.2)) fun(bp:tJ)=>ao x3.1.1 fun i11=>aJ j4 i11 ((H4.set i7 j4 (x8.1,x8.2.1,x3.1.2.1,x8.2.2.2)).set i9 j4 (bp.1,bp.2.1,bp.2.2.1,IntKind.i64.wrap (x3.1.2.2.1+x6.1))) fun(bL:tJ)=>K (bL.2.1,.nilIface,()) ((H4.set i7 j4 (x8.1,x8.2.1,x3.1.2.1,x8.2.2.2)).set i9 j4 (bp.1,bp.2.1,bp.2.2.1,IntKind.i64.wrap (x3.1.2.2.1+x6.1)))) fun F7=>ao a0 fun i14=>aJ j4 i14 H fun(dG:tJ)=>af ((dG.2.2.1:Int)!=a1) (ao a0 fun i16=>aJ j4 i16 H fun(gO:tJ)=>ao a0 fun i18=>aJ j4 i18 H fun(c8:tJ)=>F7 ((a0,a1,a2,()),()) (H.set i18 j4 (c8.1,IntKind.u64.wrap (gO.2.1+1),c8.2.2))) (F7 ((a0,a1,a2,()),()) H))) (bE (V:=(Option Nat×Int×Int×Unit)×Unit) (fun dU oJ=>ao dU.1.1 fun i22=>aJ j4 i22 oJ fun(gw:tJ)=>ao dU.1.1 fun i24=>aJ j4 i24 oJ fun(gS:tJ)=>ao dU.1.1 fun i26=>aJ j4 i26 (oJ.set i24 j4 (gS.1,gS.2.1,dU.1.2.1,gS.2.2.2)) fun(cr:tJ)=>ao dU.1.1 fun i28=>aJ j4 i28 ((oJ.set i24 j4 (gS.1,gS.2.1,dU.1.2.1,gS.2.2.2)).set i26 j4 (cr.1,cr.2.1,cr.2.2.1,IntKind.i64.wrap (dU.1.2.2.1+gw.1))) fun(rl:tJ)=>K (rl.2.1,.nilIface,()) ((oJ.set i24 j4 (gS.1,gS.2.1,dU.1.2.1,gS.2.2.2)).set i26 j4 (cr.1,cr.2.1,cr.2.2.1,IntKind.i64.wrap (dU.1.2.2.1+gw.1)))) fun ZN=>ao a0 fun i31=>aJ j4 i31 H fun(N1:tJ)=>af ((N1.2.2.1:Int)!=a1) (ao a0 fun i33=>aJ j4 i33 H fun(mn:tJ)=>ao a0 fun i35=>aJ j4 i35 H fun(mO:tJ)=>ZN ((a0,a1,a2,()),()) (H.set i35 j4 (mO.1,IntKind.u64.wrap (mn.2.1+1),mO.2.2))) (ZN ((a0,a1,a2,()),()) H)))
theorem Xx (a0 a1 a2 H K) (h:A25 a0 a1 a2 H K):C25 a0 a1 a2 H K:=
 aa mY Tryz.func25 (Eq.mp (by kernel_rfl:A25 a0 a1 a2 H K=bq ⟨Tryz.prog,tL,tK,[],eD⟩ ⟨[(7,.one .any),(14,.one .any),(27,.one .any)],[]⟩ (.seq .n (.seq (.seq .n (.cond (.seq .n .n) .n)) (.seq (.seq .n (.seq .n (.cond (.seq .n .n) .n))) (.join [(0,.v (.ref)),(1,.v (.one (.int .i64))),(2,.v (.one (.int .i64)))] [] (.seq .n (.cond .n .n)) (.seq .n (.seq .n .n)))))) Tryz.f25 P25 (a0,a1,a2,()) R25 H K) h)
def A45 (a0:Option Nat) (a1:Int) (H:HP) (K:HT VX→HP→Prop):Prop:=
 ao a0 fun i1=>aJ j4 i1 H fun(x2:tJ)=>af ((x2.2.2.1:Int)==(-1)) (K (0,false,()) H) (ao a0 fun i3=>aJ j4 i3 H fun(x4:tJ)=>af (decide (a1≥x4.2.2.2)) (K (0,false,()) H) (ao a0 fun i5=>aJ j4 i5 H fun(x6:tJ)=>K (x6.2.2.1,true,()) H))
theorem Xy (a0 a1 H K) (h:A45 a0 a1 H K):C45 a0 a1 H K:=
 aa mY Tryz.func45 (Eq.mp (by kernel_rfl:A45 a0 a1 H K=bq ⟨Tryz.prog,tL,tK,[],eD⟩ ⟨[],[]⟩ (.seq .n (.seq (.seq .n (.cond (.seq .n .n) .n)) (.seq .n .n))) Tryz.f45 P45 (a0,a1,()) VX H K) h)
def A54 (a0:Option Nat) (a1:Int) (a2:Int) (H:HP) (K:HT V0→HP→Prop):Prop:=
 af (decide (a1<0)) (K (.iface 62 (.int .i64 1),()) H) (ao a0 fun i1=>aJ j4 i1 H fun(x2:tJ)=>af ((x2.2.2.1:Int)!=a1) (K (.iface 62 (.int .i64 8),()) H) (ao a0 fun i3=>aJ j4 i3 H fun(x4:tJ)=>af ((x4.2.1:Int)!=a2) (K (.iface 62 (.int .i64 8),()) H) (K (.nilIface,()) H)))
theorem Xz (a0 a1 a2 H K) (h:A54 a0 a1 a2 H K):C54 a0 a1 a2 H K:=
 aa mY Tryz.func54 (Eq.mp (by kernel_rfl:A54 a0 a1 a2 H K=bq ⟨Tryz.prog,tL,tK,[],eD⟩ ⟨[(6,.one .any),(10,.one .any),(26,.one .any)],[]⟩ (.seq .n (.seq (.aC (.seq .n (.cond (.seq .n .n) (.seq .n (.cond (.seq .n .n) .n))))) (.seq .n .n))) Tryz.f54 P54 (a0,a1,a2,()) V0 H K) h)
def A27 (a0:Option Nat) (a1:Int) (a2:Int) (H:HP) (K:HT R27→HP→Prop):Prop:=
 Z54 a0 a1 a2 H fun(x1:T54)=>((cB x1.1:Bool)=true)∧(af (! (bj x1.1)) (K (x1.1,()) H) (ao a0 fun i2=>aJ j4 i2 H fun(x3:tJ)=>K (.nilIface,()) (H.set i2 j4 (x3.1,x3.2.1,(-1),x3.2.2.2))))
theorem XA (a0 a1 a2 H K) (h:A27 a0 a1 a2 H K):C27 a0 a1 a2 H K:=
 aa mY Tryz.func27 (Eq.mp (by kernel_rfl:A27 a0 a1 a2 H K=bq ⟨Tryz.prog,tL,tK,[],eD⟩ ⟨[(6,.one .any),(7,.one .any),(11,.one .any),(12,.one .any),(14,.one .any)],[]⟩ (.seq .n (.seq (.seq .n (.seq .n (.cond (.seq .n .n) .n))) (.seq .n (.seq .n .n)))) Tryz.f27 P27 (a0,a1,a2,()) R27 H K) h)
def A44 (a0:Int) (a1:Int) (H:HP) (K:HT Nb→HP→Prop):Prop:=
 af (decide (a0≥0)) (af (decide (a1≥0)) (K (decide (a1≤1099511627776),()) H) (K (false,()) H)) (K (false,()) H)
theorem XB (a0 a1 H K) (h:A44 a0 a1 H K):C44 a0 a1 H K:=
 aa mY Tryz.func44 (Eq.mp (by kernel_rfl:A44 a0 a1 H K=bq ⟨Tryz.prog,tL,tK,[],eD⟩ ⟨[],[]⟩ (.seq .n (.seq .n .n)) Tryz.f44 P44 (a0,a1,()) Nb H K) h)
theorem aeV (a0 a1) {r} (h:∀H K,K r H→A44 a0 a1 H K):S44 a0 a1 r:=fun H K hk=>XB a0 a1 H K (h H K hk)
def dx:TypeId→Option AK
 |192=>some (k_)
 |95=>some ((.one .sl))
 |3=>some ((.one (.int .i64)))
 |37=>some (aM)
 |_=>none
def dy:FuncId→Option oW
 |22=>some ⟨M5,Ej,0⟩
 |35=>some ⟨QX,M_,0⟩
 |40=>some ⟨ZG,M',1⟩
 |41=>some ⟨P41,ZH,2⟩
 |42=>some ⟨VW,F3,1⟩
 |43=>some ⟨P43,Na,0⟩
 |57=>some ⟨P57,V2,1⟩
 |61=>some ⟨Nf,AH,1⟩
 |62=>some ⟨P62,R62,1⟩
 |75=>some ⟨P75,R75,2⟩
 |88=>some ⟨P88,Nl,0⟩
 |89=>some ⟨ZJ,Lq,0⟩
 |100=>some ⟨No,zW,0⟩
 |_=>none
theorem ct:Tryz.prog.follows .mixedOrders=true:=by kernel_rfl
def A18 (a0:Int) (H:HP) (K:HT R18→HP→Prop):Prop:=
 af (decide (a0<1)) (K (none,.iface 62 (.int .i64 1),()) H) (af (decide (a0>32)) (K (none,.iface 62 (.int .i64 1),()) H) (mkA a0 a0 208 fun i1=>rM (.cons (.one (.int .i64)) (.cons aM (.cons (.one (.int .i64)) (.cons (.one .bool) (.cons (.row .byte) (.cons (.row aj) (.one (.int .u64)))))))) 106 (List.replicate i1 (0,(0,0,0,[],[],[],[],0),0,false,[],[],0)) H fun(x2:Sl) H3=>pd (.one .sl) x2 H3 fun i4 H5=>K (some i4,.nilIface,()) H5))
theorem Ye (a0 H K) (h:A18 a0 H K):C18 a0 H K:=
 aa ct Tryz.func18 (Eq.mp (by kernel_rfl:A18 a0 H K=bq ⟨Tryz.prog,dy,dx,[],iV⟩ ⟨[(3,.one .any),(10,.one .any),(12,.own (.cons (.one (.int .i64)) (.cons aM (.cons (.one (.int .i64)) (.cons (.one .bool) (.cons (.row .byte) (.cons (.row aj) (.one (.int .u64)))))))) 106)],[]⟩ (.seq .n (.seq (.seq .n (.cond (.seq .n .n) .n)) (.seq .n (.gh [.qC 768,.cls 14 (.one .sl)] .n)))) Tryz.f18 P18 (a0,()) R18 H K) h)
def A57 (a0:Option Nat) (a1:Int) (H:HP) (K:HT V2→HP→Prop):Prop:=
 af (decide (a1<0)) (K (none,()) H) (ao a0 fun i1=>aJ (.one .sl) i1 H fun(x2:Sl)=>af (decide (a1≥((x2.len:Nat):Int))) (K (none,()) H) (ao a0 fun i3=>aJ (.one .sl) i3 H fun(x4:Sl)=>dF x4 a1 14 fun(x5:Addr)=>K (some (Addr.add x5 0),()) H))
theorem Yf (a0 a1 H K) (h:A57 a0 a1 H K):C57 a0 a1 H K:=
 aa ct Tryz.func57 (Eq.mp (by kernel_rfl:A57 a0 a1 H K=bq ⟨Tryz.prog,dy,dx,[],iV⟩ ⟨[(4,.one .ptr),(12,.one .sl),(19,.one .sl)],[]⟩ (.seq .n (.seq (.seq .n (.cond (.seq .n .n) .n)) (.seq .n .n))) Tryz.f57 P57 (a0,a1,()) V2 H K) h)
def A73 (a0:Option Nat) (a1:Int) (H:HP) (K:HT V7→HP→Prop):Prop:=
 Z57 a0 a1 H fun(x1:T57)=>af (! (Option.isNone x1.1)) (pe x1.1 fun(x2:Addr)=>jg (.cons (.one (.int .i64)) (.cons aM (.cons (.one (.int .i64)) (.cons (.one .bool) (.cons (.row .byte) (.cons (.row aj) (.one (.int .u64)))))))) x2 H fun(x3:Int×aO×Int×Bool×List UInt8×(List aq)×Int)=>K (x3.1,()) H) (K ((-1),()) H)
theorem Yg (a0 a1 H K) (h:A73 a0 a1 H K):C73 a0 a1 H K:=
 aa ct Tryz.func73 (Eq.mp (by kernel_rfl:A73 a0 a1 H K=bq ⟨Tryz.prog,dy,dx,[],iV⟩ ⟨[(5,.one .ptr),(8,.one .ptr),(9,.one .ptr),(11,.one .ptr)],[]⟩ (.seq .n (.seq (.seq .n (.seq .n (.cond (.seq .n .n) .n))) (.seq .n .n))) Tryz.f73 P73 (a0,a1,()) V7 H K) h)
def A62 (a0:Int×aO×Int×Bool×List UInt8×(List aq)×Int) (a1:Option Nat) (H:HP) (K:HT R62→HP→Prop):Prop:=
 ao a1 fun i1=>aJ (.one (.int .i64)) i1 H fun n2=>K ((a0.1:Int)==n2,()) H
theorem Yh (a0 a1 H K) (h:A62 a0 a1 H K):C62 a0 a1 H K:=
 aa ct Tryz.func62 (Eq.mp (by kernel_rfl:A62 a0 a1 H K=bq ⟨Tryz.prog,dy,dx,[],iV⟩ ⟨[],[]⟩ (.seq (.gh [.ZP 1] .n) (.seq .n .n)) Tryz.f62 P62 (a0,a1,()) R62 H K) h)
def Wk (a0:Sl) (a1:List Nat) (H:HP) (K:HT AH→HP→Prop):Prop:=
 a9 (V:=(Sl×List Nat×Int×Int×Unit)×Unit) ((a0,a1,((a0.len:Nat):Int),0,()),()) H fun x1 H2 B3=>af (decide (x1.1.2.2.2.1<x1.1.2.2.1)) (dF x1.1.1 x1.1.2.2.2.1 14 fun(x4:Addr)=>jg (.cons (.one (.int .i64)) (.cons aM (.cons (.one (.int .i64)) (.cons (.one .bool) (.cons (.row .byte) (.cons (.row aj) (.one (.int .u64)))))))) x4 H2 fun(x5:Int×aO×Int×Bool×List UInt8×(List aq)×Int)=>By x1.1.2.1 fun i6 (l7:List Nat)=>((l7:List Nat)=[])∧(C62 (x5.1,(x5.2.1.1,x5.2.1.2.1,x5.2.1.2.2.1,x5.2.1.2.2.2.1,x5.2.1.2.2.2.2.1,x5.2.1.2.2.2.2.2.1,x5.2.1.2.2.2.2.2.2.1,x5.2.1.2.2.2.2.2.2.2),x5.2.2.1,x5.2.2.2.1,x5.2.2.2.2.1,x5.2.2.2.2.2.1,x5.2.2.2.2.2.2) (some i6) H2 fun(x8:T62) H9=>af x8.1 (K (x1.1.2.2.2.1,()) H9) (B3 ((x1.1.1,x1.1.2.1,x1.1.2.2.1,IntKind.i64.wrap (x1.1.2.2.2.1+1),()),()) H9))) (K ((-1),()) H2)
theorem DJ (a0 a1 H K) (h:Wk a0 a1 H K):C61 a0 a1 H K:=
 aa ct Tryz.func61 (Eq.mp (by kernel_rfl:Wk a0 a1 H K=bq ⟨Tryz.prog,dy,dx,[],iV⟩ ⟨[(0,.one .sl),(6,.one .sl),(12,.one .sl)],[]⟩ (.seq .n (.seq (.seq .n (.aC (.loop [0,1,7,8] [] (.seq .n (.seq (.cond .n .n) (.seq (.aC (.seq .n (.seq .n (.cond (.seq .n .n) .n)))) .n)))))) (.seq .n .n))) Tryz.f61 Nf (a0,a1,()) AH H K) h)
def A41 (a0:Option Nat) (a1:Int) (H:HP) (K:HT ZH→HP→Prop):Prop:=
 pd (.one (.int .i64)) a1 H fun i1 H2=>ao a0 fun i3=>aJ (.one .sl) i3 H2 fun(x4:Sl)=>Z61 x4 [i1] H2 fun(x5:T61)=>K (x5.1,()) H2
theorem Yi (a0 a1 H K) (h:A41 a0 a1 H K):C41 a0 a1 H K:=
 aa ct Tryz.func41 (Eq.mp (by kernel_rfl:A41 a0 a1 H K=bq ⟨Tryz.prog,dy,dx,[],iV⟩ ⟨[(8,.one .sl)],[]⟩ (.seq .n (.seq (.gh [.cls 3 (.one (.int .i64))] .n) .n)) Tryz.f41 P41 (a0,a1,()) ZH H K) h)
def A24 (a0:Option Nat) (a1:aO) (H:HP) (K:HT R24→HP→Prop):Prop:=
 pd aM (a1.1,a1.2.1,a1.2.2.1,a1.2.2.2.1,a1.2.2.2.2.1,a1.2.2.2.2.2.1,a1.2.2.2.2.2.2.1,a1.2.2.2.2.2.2.2) H fun i1 H2=>C41 a0 0 H2 fun(x3:T41) H4=>aJ aM i1 H4 fun(x5:aO)=>Q22 (x5.1,x5.2.1,x5.2.2.1,x5.2.2.2.1,x5.2.2.2.2.1,x5.2.2.2.2.2.1,x5.2.2.2.2.2.2.1,x5.2.2.2.2.2.2.2) fun(x6:T22)=>af (! x6.1) (K (0,.iface 62 (.int .i64 1),()) H4) (ao a0 fun i7=>aJ (.one .sl) i7 H4 fun(x8:Sl)=>Z42 x8 [i1] H4 fun(x9:T42)=>af x9.1 (K (0,.iface 62 (.int .i64 4),()) H4) (af (decide (x3.1<0)) (K (0,.iface 62 (.int .i64 5),()) H4) (ao a0 fun i10=>aJ (.one .sl) i10 H4 fun(br:Sl)=>aJ aM i1 H4 fun(bL:aO)=>Q43 (bL.1,bL.2.1,bL.2.2.1,bL.2.2.2.1,bL.2.2.2.2.1,bL.2.2.2.2.2.1,bL.2.2.2.2.2.2.1,bL.2.2.2.2.2.2.2) fun(fG:T43)=>dF br x3.1 14 fun(l_:Addr)=>xQ (.cons (.one (.int .i64)) (.cons aM (.cons (.one (.int .i64)) (.cons (.one .bool) (.cons (.row .byte) (.cons (.row aj) (.one (.int .u64)))))))) l_ H4 fun(dG:Int×aO×Int×Bool×List UInt8×(List aq)×Int) We=>K (x3.1,.nilIface,()) (We (1,(fG.1.1,fG.1.2.1,fG.1.2.2.1,fG.1.2.2.2.1,fG.1.2.2.2.2.1,fG.1.2.2.2.2.2.1,fG.1.2.2.2.2.2.2.1,fG.1.2.2.2.2.2.2.2),0,false,[],[],0)))))
theorem Yj (a0 a1 H K) (h:A24 a0 a1 H K):C24 a0 a1 H K:=
 aa ct Tryz.func24 (Eq.mp (by kernel_rfl:A24 a0 a1 H K=bq ⟨Tryz.prog,dy,dx,[],iV⟩ ⟨[(5,.one .any),(6,.mo 40),(15,.one .any),(20,.one .sl),(23,.one .any),(27,.one .any),(31,.one .sl)],[]⟩ (.seq .n (.seq (.gh [.cls 3 aM] .n) (.seq .n (.seq (.aC (.seq .n (.cond (.seq .n .n) (.seq .n (.cond (.seq .n .n) (.seq .n (.cond (.seq .n .n) .n))))))) (.seq (.ord 512) (.seq .n .n)))))) Tryz.f24 P24 (a0,a1,()) R24 H K) h)
def A75 (a0:Option Nat) (a1:Int) (a2:Int) (a3:List Int) (H:HP) (K:HT R75→HP→Prop):Prop:=
 Z57 a0 a1 H fun(x1:T57)=>af (Option.isNone x1.1) (K (.iface 62 (.int .i64 6),()) H) (pe x1.1 fun(x2:Addr)=>jg (.cons (.one (.int .i64)) (.cons aM (.cons (.one (.int .i64)) (.cons (.one .bool) (.cons (.row .byte) (.cons (.row aj) (.one (.int .u64)))))))) x2 H fun(x3:Int×aO×Int×Bool×List UInt8×(List aq)×Int)=>Q89 a3 x3.1 fun(x4:T89)=>af (! x4.1) (K (.iface 62 (.int .i64 10),()) H) (pe x1.1 fun(x5:Addr)=>xQ (.cons (.one (.int .i64)) (.cons aM (.cons (.one (.int .i64)) (.cons (.one .bool) (.cons (.row .byte) (.cons (.row aj) (.one (.int .u64)))))))) x5 H fun(x6:Int×aO×Int×Bool×List UInt8×(List aq)×Int) B7=>K (.nilIface,()) (B7 (a2,x6.2))))
theorem Yk (a0 a1 a2 a3 H K) (h:A75 a0 a1 a2 a3 H K):C75 a0 a1 a2 a3 H K:=
 aa ct Tryz.func75 (Eq.mp (by kernel_rfl:A75 a0 a1 a2 a3 H K=bq ⟨Tryz.prog,dy,dx,[],iV⟩ ⟨[(3,.row (.one (.int .i64))),(8,.one .any),(9,.one .ptr),(12,.one .ptr),(14,.one .ptr),(16,.one .any),(18,.row (.one (.int .i64))),(19,.one .ptr),(25,.one .any),(26,.one .ptr)],[]⟩ (.seq .n (.seq .n (.seq (.aC (.seq .n (.cond (.seq .n .n) (.seq .n (.cond (.seq .n .n) .n))))) (.seq .n (.seq .n .n))))) Tryz.f75 P75 (a0,a1,a2,a3,()) R75 H K) h)
def A52 (a0:Option Nat) (a1:Int) (H:HP) (K:HT R52→HP→Prop):Prop:=
 C75 a0 a1 2 [1] H fun(x1:T75) H2=>K (x1.1,()) H2
theorem Yl (a0 a1 H K) (h:A52 a0 a1 H K):C52 a0 a1 H K:=
 aa ct Tryz.func52 (Eq.mp (by kernel_rfl:A52 a0 a1 H K=bq ⟨Tryz.prog,dy,dx,[],iV⟩ ⟨[(4,.one .any),(7,.row (.one (.int .i64))),(8,.one .any)],[]⟩ (.seq .n (.seq .n .n)) Tryz.f52 P52 (a0,a1,()) R52 H K) h)
def A69 (a0:Option Nat) (a1:Int) (a2:Int×Bool×List UInt8×(List aq)×Int) (H:HP) (K:HT R69→HP→Prop):Prop:=
 C75 a0 a1 3 [2] H fun(x1:T75) H2=>((cB x1.1:Bool)=true)∧(af (! (bj x1.1)) (K (x1.1,()) H2) (ao a0 fun i3=>aJ (.one .sl) i3 H2 fun(x4:Sl)=>Q88 (a2.1,a2.2.1,a2.2.2.1,a2.2.2.2.1,a2.2.2.2.2) fun(x5:T88)=>dF x4 a1 14 fun(x6:Addr)=>xQ (.cons (.one (.int .i64)) (.cons aM (.cons (.one (.int .i64)) (.cons (.one .bool) (.cons (.row .byte) (.cons (.row aj) (.one (.int .u64)))))))) x6 H2 fun(x7:Int×aO×Int×Bool×List UInt8×(List aq)×Int) B8=>K (.nilIface,()) (B8 (x7.1,x7.2.1,x5.1.1,x5.1.2.1,x5.1.2.2.1,x5.1.2.2.2.1,x5.1.2.2.2.2))))
theorem Ym (a0 a1 a2 H K) (h:A69 a0 a1 a2 H K):C69 a0 a1 a2 H K:=
 aa ct Tryz.func69 (Eq.mp (by kernel_rfl:A69 a0 a1 a2 H K=bq ⟨Tryz.prog,dy,dx,[],iV⟩ ⟨[(6,.one .any),(7,.one .any),(10,.row (.one (.int .i64))),(11,.one .any),(12,.one .any),(14,.one .any),(18,.one .sl)],[]⟩ (.seq .n (.seq (.seq .n (.seq .n (.cond (.seq .n .n) .n))) (.seq (.ord 512) (.seq .n .n)))) Tryz.f69 P69 (a0,a1,a2,()) R69 H K) h)
def A30 (a0:Option Nat) (a1:Int) (a2:Int) (a3:Int) (H:HP) (K:HT R30→HP→Prop):Prop:=
 Z57 a0 a1 H fun(x1:T57)=>af (Option.isNone x1.1) (K ((0,false,[],[],0),.iface 62 (.int .i64 6),()) H) (pe x1.1 fun(x2:Addr)=>jg (.cons (.one (.int .i64)) (.cons aM (.cons (.one (.int .i64)) (.cons (.one .bool) (.cons (.row .byte) (.cons (.row aj) (.one (.int .u64)))))))) x2 H fun(x3:Int×aO×Int×Bool×List UInt8×(List aq)×Int)=>af ((x3.1:Int)==0) (K ((0,false,[],[],0),.iface 62 (.int .i64 3),()) H) (pe x1.1 fun(x4:Addr)=>jg (.cons (.one (.int .i64)) (.cons aM (.cons (.one (.int .i64)) (.cons (.one .bool) (.cons (.row .byte) (.cons (.row aj) (.one (.int .u64)))))))) x4 H fun(x5:Int×aO×Int×Bool×List UInt8×(List aq)×Int)=>af ((x5.2.1.1:Int)!=a2) (K ((0,false,[],[],0),.iface 62 (.int .i64 3),()) H) (pe x1.1 fun(x6:Addr)=>jg (.cons (.one (.int .i64)) (.cons aM (.cons (.one (.int .i64)) (.cons (.one .bool) (.cons (.row .byte) (.cons (.row aj) (.one (.int .u64)))))))) x6 H fun(x7:Int×aO×Int×Bool×List UInt8×(List aq)×Int)=>af ((x7.2.1.2.1:Int)!=a3) (K ((0,false,[],[],0),.iface 62 (.int .i64 3),()) H) (pe x1.1 fun(x8:Addr)=>jg (.cons (.one (.int .i64)) (.cons aM (.cons (.one (.int .i64)) (.cons (.one .bool) (.cons (.row .byte) (.cons (.row aj) (.one (.int .u64)))))))) x8 H fun(x9:Int×aO×Int×Bool×List UInt8×(List aq)×Int)=>af ((x9.1:Int)==1) (K ((0,false,[],[],0),.iface 62 (.int .i64 10),()) H) (pe x1.1 fun(bp:Addr)=>jg (.cons (.one (.int .i64)) (.cons aM (.cons (.one (.int .i64)) (.cons (.one .bool) (.cons (.row .byte) (.cons (.row aj) (.one (.int .u64)))))))) bp H fun(br:Int×aO×Int×Bool×List UInt8×(List aq)×Int)=>af ((br.1:Int)==2) (K ((0,false,[],[],0),.iface 62 (.int .i64 10),()) H) (pe x1.1 fun(bL:Addr)=>jg (.cons (.one (.int .i64)) (.cons aM (.cons (.one (.int .i64)) (.cons (.one .bool) (.cons (.row .byte) (.cons (.row aj) (.one (.int .u64)))))))) bL H fun(fG:Int×aO×Int×Bool×List UInt8×(List aq)×Int)=>pe x1.1 fun(l_:Addr)=>jg (.cons (.one (.int .i64)) (.cons aM (.cons (.one (.int .i64)) (.cons (.one .bool) (.cons (.row .byte) (.cons (.row aj) (.one (.int .u64)))))))) l_ H fun(dG:Int×aO×Int×Bool×List UInt8×(List aq)×Int)=>pe x1.1 fun(sO:Addr)=>xQ (.cons (.one (.int .i64)) (.cons aM (.cons (.one (.int .i64)) (.cons (.one .bool) (.cons (.row .byte) (.cons (.row aj) (.one (.int .u64)))))))) sO H fun(gO:Int×aO×Int×Bool×List UInt8×(List aq)×Int) Q'=>af ((dG.1:Int)==4) (K ((0,false,[],[],0),.iface 62 (.int .i64 8),()) (Q' (0,(0,0,0,[],[],[],[],0),0,false,[],[],0))) (K ((fG.2.2.1,fG.2.2.2.1,fG.2.2.2.2.1,fG.2.2.2.2.2.1,fG.2.2.2.2.2.2),.nilIface,()) (Q' (0,(0,0,0,[],[],[],[],0),0,false,[],[],0)))))))))
theorem Yn (a0 a1 a2 a3 H K) (h:A30 a0 a1 a2 a3 H K):C30 a0 a1 a2 a3 H K:=
 aa ct Tryz.func30 (Eq.mp (by kernel_rfl:A30 a0 a1 a2 a3 H K=bq ⟨Tryz.prog,dy,dx,[],iV⟩ ⟨[(9,.one .any),(10,.one .ptr),(15,.one .ptr),(17,.one .ptr),(20,.one .any),(22,.one .ptr),(28,.one .ptr),(37,.one .ptr),(46,.one .any),(48,.one .ptr),(54,.one .ptr),(61,.one .any),(62,.one .ptr),(66,.one .ptr),(70,.one .ptr),(76,.one .any)],[]⟩ (.seq .n (.seq .n (.seq (.aC (.seq .n (.cond (.seq .n .n) (.seq .n (.cond (.seq .n .n) (.seq .n (.cond (.seq .n .n) .n))))))) (.seq (.ord 9444732965739290427392) (.seq .n (.seq (.seq .n (.cond (.seq .n .n) .n)) (.seq .n .n))))))) Tryz.f30 P30 (a0,a1,a2,a3,()) R30 H K) h)
def A72 (a0:Option Nat) (a1:Int) (H:HP) (K:HT V6→HP→Prop):Prop:=
 Z57 a0 a1 H fun(x1:T57)=>af (Option.isNone x1.1) (K ((0,0,0,[],[],[],[],0),.iface 62 (.int .i64 6),()) H) (pe x1.1 fun(x2:Addr)=>jg (.cons (.one (.int .i64)) (.cons aM (.cons (.one (.int .i64)) (.cons (.one .bool) (.cons (.row .byte) (.cons (.row aj) (.one (.int .u64)))))))) x2 H fun(x3:Int×aO×Int×Bool×List UInt8×(List aq)×Int)=>af ((x3.1:Int)==0) (K ((0,0,0,[],[],[],[],0),.iface 62 (.int .i64 3),()) H) (pe x1.1 fun(x4:Addr)=>jg (.cons (.one (.int .i64)) (.cons aM (.cons (.one (.int .i64)) (.cons (.one .bool) (.cons (.row .byte) (.cons (.row aj) (.one (.int .u64)))))))) x4 H fun(x5:Int×aO×Int×Bool×List UInt8×(List aq)×Int)=>Q43 (x5.2.1.1,x5.2.1.2.1,x5.2.1.2.2.1,x5.2.1.2.2.2.1,x5.2.1.2.2.2.2.1,x5.2.1.2.2.2.2.2.1,x5.2.1.2.2.2.2.2.2.1,x5.2.1.2.2.2.2.2.2.2) fun(x6:T43)=>K ((x6.1.1,x6.1.2.1,x6.1.2.2.1,x6.1.2.2.2.1,x6.1.2.2.2.2.1,x6.1.2.2.2.2.2.1,x6.1.2.2.2.2.2.2.1,x6.1.2.2.2.2.2.2.2),.nilIface,()) H))
theorem Yo (a0 a1 H K) (h:A72 a0 a1 H K):C72 a0 a1 H K:=
 aa ct Tryz.func72 (Eq.mp (by kernel_rfl:A72 a0 a1 H K=bq ⟨Tryz.prog,dy,dx,[],iV⟩ ⟨[(5,.one .any),(6,.one .ptr),(9,.one .ptr),(11,.one .ptr),(14,.one .any),(16,.one .ptr),(22,.one .any),(23,.one .ptr)],[]⟩ (.seq .n (.seq .n (.seq (.aC (.seq .n (.cond (.seq .n .n) (.seq .n (.cond (.seq .n .n) .n))))) (.seq .n .n)))) Tryz.f72 P72 (a0,a1,()) V6 H K) h)
def A71 (a0:Option Nat) (H:HP) (K:HT V5→HP→Prop):Prop:=
 ao a0 fun i1=>aJ (.one .sl) i1 H fun(x2:Sl)=>K (((x2.len:Nat):Int),()) H
theorem Yp (a0 H K) (h:A71 a0 H K):C71 a0 H K:=
 aa ct Tryz.func71 (Eq.mp (by kernel_rfl:A71 a0 H K=bq ⟨Tryz.prog,dy,dx,[],iV⟩ ⟨[(6,.one .sl)],[]⟩ (.seq .n (.seq .n .n)) Tryz.f71 P71 (a0,()) V5 H K) h)
def A43 (a0:aO) (H:HP) (K:HT Na→HP→Prop):Prop:=
 oI a0.2.2.2.1 fun(l1:od)=>oI a0.2.2.2.2.1 fun(l2:od)=>oI a0.2.2.2.2.2.1 fun(l3:od)=>oI a0.2.2.2.2.2.2.1 fun(l4:od)=>K ((a0.1,a0.2.1,a0.2.2.1,l1.1,l2.1,l3.1,l4.1,a0.2.2.2.2.2.2.2),()) H
theorem Yq (a0 H K) (h:A43 a0 H K):C43 a0 H K:=
 aa ct Tryz.func43 (Eq.mp (by kernel_rfl:A43 a0 H K=bq ⟨Tryz.prog,dy,dx,[],iV⟩ ⟨[(4,.row .byte),(5,.row .byte),(7,.row .byte),(8,.row .byte),(10,.row .byte),(11,.row .byte),(13,.row .byte),(14,.row .byte)],[]⟩ (.seq .n (.seq (.ord 12844836833405434981253120) (.seq .n .n))) Tryz.f43 P43 (a0,()) Na H K) h)
theorem afB (a0) {r} (h:∀H K,K r H→A43 a0 H K):S43 a0 r:=fun H K hk=>Yq a0 H K (h H K hk)
def A88 (a0:Int×Bool×List UInt8×(List aq)×Int) (H:HP) (K:HT Nl→HP→Prop):Prop:=
 oI a0.2.2.1 fun(l1:od)=>aP a0.2.2.2.1.length fun n2=>a9 (V:=(Unit×Unit×(List aq)×Int×Int×Unit)×(Int×Bool×List UInt8×(List aq)×Int×Unit)×(Int×Bool×Unit×Unit×Int×Unit)×Unit) (((),(),a0.2.2.2.1,n2,0,()),(a0.1,a0.2.1,l1.1,[],a0.2.2.2.2,()),(0,false,(),(),0,()),()) H fun x3 H4 B5=>af (decide (x3.1.2.2.2.2.1<x3.1.2.2.2.1)) (bT x3.1.2.2.1 x3.1.2.2.2.2.1 fun(l6:aq)=>oI l6.1 fun(l7:od)=>oI l6.2 fun(l8:od)=>cR x3.2.1.2.2.2.1.length 1 48 (B5 (((),(),x3.1.2.2.1,x3.1.2.2.2.1,IntKind.i64.wrap (x3.1.2.2.2.2.1+1),()),(x3.2.1.1,x3.2.1.2.1,x3.2.1.2.2.1,x3.2.1.2.2.2.1++[(l7.1,l8.1)],x3.2.1.2.2.2.2.1,()),(x3.2.2.1.1,x3.2.2.1.2.1,(),(),x3.2.2.1.2.2.2.2.1,()),()) H4)) (K ((x3.2.1.1,x3.2.1.2.1,x3.2.1.2.2.1,x3.2.1.2.2.2.1,x3.2.1.2.2.2.2.1),()) H4)
theorem Yr (a0 H K) (h:A88 a0 H K):C88 a0 H K:=
 aa ct Tryz.func88 (Eq.mp (by kernel_rfl:A88 a0 H K=bq ⟨Tryz.prog,dy,dx,[],iV⟩ ⟨[(3,.row aj),(7,.row aj),(9,.row .byte),(10,.row .byte),(13,.row aj),(20,.row aj),(22,.row .byte),(23,.row .byte),(25,.row .byte),(26,.row .byte),(28,.row aj),(29,.own aj 56)],[((1,3),.own aj 56)]⟩ (.seq .n (.seq .n (.seq .n (.seq (.seq .n (.aC (.loop [1,2,13,14,15] [1,2] (.seq .n (.seq (.cond .n .n) (.seq (.aC (.seq .n (.ord 75557863725914323419136))) .n)))))) (.seq .n .n))))) Tryz.f88 P88 (a0,()) Nl H K) h)
theorem afC (a0) {r} (h:∀H K,K r H→A88 a0 H K):S88 a0 r:=fun H K hk=>Yr a0 H K (h H K hk)
def A89 (a0:List Int) (a1:Int) (H:HP) (K:HT Lq→HP→Prop):Prop:=
 asn a0 a1 fun(x1:arV)=>K (decide (x1.1≥0),()) H
theorem Ys (a0 a1 H K) (h:A89 a0 a1 H K):C89 a0 a1 H K:=
 aa ct Tryz.func89 (Eq.mp (by kernel_rfl:A89 a0 a1 H K=bq ⟨Tryz.prog,dy,dx,[],iV⟩ ⟨[(0,.row (.one (.int .i64))),(5,.row (.one (.int .i64)))],[]⟩ (.seq .n (.seq .n .n)) Tryz.f89 ZJ (a0,a1,()) Lq H K) h)
theorem afD (a0 a1) {r} (h:∀H K,K r H→A89 a0 a1 H K):S89 a0 a1 r:=fun H K hk=>Ys a0 a1 H K (h H K hk)
def U7 (a0:List Int) (a1:Int) (H:HP) (K:HT zW→HP→Prop):Prop:=
 aP a0.length fun n1=>a9 (V:=(List Int×Int×Int×Int×Unit)×Unit) ((a0,a1,n1,0,()),()) H fun x2 H3 B4=>af (decide (x2.1.2.2.2.1<x2.1.2.2.1)) (bT x2.1.1 x2.1.2.2.2.1 fun n5=>af ((x2.1.2.1:Int)==n5) (K (x2.1.2.2.2.1,()) H3) (B4 ((x2.1.1,x2.1.2.1,x2.1.2.2.1,IntKind.i64.wrap (x2.1.2.2.2.1+1),()),()) H3)) (K ((-1),()) H3)
theorem Tb (a0 a1 H K) (h:U7 a0 a1 H K):asm a0 a1 H K:=
 aa ct Tryz.func100 (Eq.mp (by kernel_rfl:U7 a0 a1 H K=bq ⟨Tryz.prog,dy,dx,[],iV⟩ ⟨[(0,.row (.one (.int .i64))),(6,.row (.one (.int .i64))),(12,.row (.one (.int .i64)))],[]⟩ (.seq .n (.seq (.seq .n (.aC (.loop [0,1,7,8] [] (.seq .n (.seq (.cond .n .n) (.seq (.aC (.seq .n (.seq .n (.cond (.seq .n .n) .n)))) .n)))))) (.seq .n .n))) Tryz.f100 No (a0,a1,()) zW H K) h)
theorem Yt (a0 a1) {r} (h:∀H K,K r H→U7 a0 a1 H K):aiT a0 a1 r:=fun H K hk=>Tb a0 a1 H K (h H K hk)
end Go.Proofs.YtmoebnnbjppjbaaGreat
namespace Go.Proofs.YtmoebnnbjppjbaaGreat.P
open Go Go.Gp Go.Ga
set_option linter.unusedVariables false
set_option maxRecDepth 100000
set_option maxHeartbeats 0
abbrev T40:Type:=(Bool×Unit)
abbrev T61:Type:=(Int×Unit)
abbrev ZG:List (Bool×AK):=[(true,.cons (.one (.int .i64)) (.cons aM (.cons (.one (.int .i64)) (.cons (.one .bool) (.cons (.row .byte) (.cons (.row aj) (.one (.int .u64)))))))),(false,.ref)]
abbrev M':List (Bool×AK):=[(false,.one .bool)]
abbrev C40 (a0:Int×aO×Int×Bool×List UInt8×(List aq)×Int) (a1:Option Nat) (H:HP) (K:HT M'→HP→Prop):Prop:=ae Tryz.prog 40 ZG (a0,a1,()) M' H K
abbrev VW:List (Bool×AK):=[(false,.one .sl),(false,.fn 40)]
abbrev F3:List (Bool×AK):=[(false,.one .bool)]
abbrev C42 (a0:Sl) (a1:List Nat) (H:HP) (K:HT F3→HP→Prop):Prop:=ae Tryz.prog 42 VW (a0,a1,()) F3 H K
abbrev Z42 (a0:Sl) (a1:List Nat) (H:HP) (K:HT F3→Prop):Prop:=fS Tryz.prog 42 VW (a0,a1,()) F3 H K
abbrev Nf:List (Bool×AK):=[(false,.one .sl),(false,.fn 40)]
abbrev AH:List (Bool×AK):=[(false,.one (.int .i64))]
abbrev C61 (a0:Sl) (a1:List Nat) (H:HP) (K:HT AH→HP→Prop):Prop:=ae Tryz.prog 61 Nf (a0,a1,()) AH H K
abbrev Z61 (a0:Sl) (a1:List Nat) (H:HP) (K:HT AH→Prop):Prop:=fS Tryz.prog 61 Nf (a0,a1,()) AH H K
def uS:TypeId→Option AK
 |192=>some (k_)
 |95=>some ((.one .sl))
 |3=>some ((.one (.int .i64)))
 |37=>some (aM)
 |_=>none
def uT:FuncId→Option oW
 |40=>some ⟨ZG,M',1⟩
 |61=>some ⟨Nf,AH,1⟩
 |_=>none
theorem qo:Tryz.prog.follows .mixedOrders=true:=by kernel_rfl
def A40 (a0:Int×aO×Int×Bool×List UInt8×(List aq)×Int) (a1:Option Nat) (H:HP) (K:HT M'→HP→Prop):Prop:=
 ao a1 fun i1=>af ((a0.1:Int)!=0) (aJ aM i1 H fun(x2:aO)=>K ((a0.2.1.1:Int)==x2.1,()) H) (K (false,()) H)
theorem Yu (a0 a1 H K) (h:A40 a0 a1 H K):C40 a0 a1 H K:=
 aa qo Tryz.func40 (Eq.mp (by kernel_rfl:A40 a0 a1 H K=bq ⟨Tryz.prog,uT,uS,[],iV⟩ ⟨[],[]⟩ (.seq (.gh [.ZP 1] .n) (.seq .n .n)) Tryz.f40 ZG (a0,a1,()) M' H K) h)
def Wk (a0:Sl) (a1:List Nat) (H:HP) (K:HT AH→HP→Prop):Prop:=
 a9 (V:=(Sl×List Nat×Int×Int×Unit)×Unit) ((a0,a1,((a0.len:Nat):Int),0,()),()) H fun x1 H2 B3=>af (decide (x1.1.2.2.2.1<x1.1.2.2.1)) (dF x1.1.1 x1.1.2.2.2.1 14 fun(x4:Addr)=>jg (.cons (.one (.int .i64)) (.cons aM (.cons (.one (.int .i64)) (.cons (.one .bool) (.cons (.row .byte) (.cons (.row aj) (.one (.int .u64)))))))) x4 H2 fun(x5:Int×aO×Int×Bool×List UInt8×(List aq)×Int)=>By x1.1.2.1 fun i6 (l7:List Nat)=>((l7:List Nat)=[])∧(C40 (x5.1,(x5.2.1.1,x5.2.1.2.1,x5.2.1.2.2.1,x5.2.1.2.2.2.1,x5.2.1.2.2.2.2.1,x5.2.1.2.2.2.2.2.1,x5.2.1.2.2.2.2.2.2.1,x5.2.1.2.2.2.2.2.2.2),x5.2.2.1,x5.2.2.2.1,x5.2.2.2.2.1,x5.2.2.2.2.2.1,x5.2.2.2.2.2.2) (some i6) H2 fun(x8:T40) H9=>af x8.1 (K (x1.1.2.2.2.1,()) H9) (B3 ((x1.1.1,x1.1.2.1,x1.1.2.2.1,IntKind.i64.wrap (x1.1.2.2.2.1+1),()),()) H9))) (K ((-1),()) H2)
theorem DJ (a0 a1 H K) (h:Wk a0 a1 H K):C61 a0 a1 H K:=
 aa qo Tryz.func61 (Eq.mp (by kernel_rfl:Wk a0 a1 H K=bq ⟨Tryz.prog,uT,uS,[],iV⟩ ⟨[(0,.one .sl),(6,.one .sl),(12,.one .sl)],[]⟩ (.seq .n (.seq (.seq .n (.aC (.loop [0,1,7,8] [] (.seq .n (.seq (.cond .n .n) (.seq (.aC (.seq .n (.seq .n (.cond (.seq .n .n) .n)))) .n)))))) (.seq .n .n))) Tryz.f61 Nf (a0,a1,()) AH H K) h)
def A42 (a0:Sl) (a1:List Nat) (H:HP) (K:HT F3→HP→Prop):Prop:=
 Z61 a0 a1 H fun(x1:T61)=>K (decide (x1.1≥0),()) H
theorem Yv (a0 a1 H K) (h:A42 a0 a1 H K):C42 a0 a1 H K:=
 aa qo Tryz.func42 (Eq.mp (by kernel_rfl:A42 a0 a1 H K=bq ⟨Tryz.prog,uT,uS,[],iV⟩ ⟨[(0,.one .sl),(5,.one .sl)],[]⟩ (.seq .n (.seq .n .n)) Tryz.f42 VW (a0,a1,()) F3 H K) h)
end Go.Proofs.YtmoebnnbjppjbaaGreat.P
namespace Go.Proofs.YtmoebnnbjppjbaaGreat
open Go Go.Gp Go.Ga
set_option linter.unusedVariables false
set_option maxRecDepth 100000
set_option maxHeartbeats 0
def g9:TypeId→Option AK
 |192=>some (k_)
 |_=>none
def g_:FuncId→Option oW
 |16=>some ⟨VP,IQ,0⟩
 |22=>some ⟨M5,Ej,0⟩
 |31=>some ⟨P31,M7,0⟩
 |32=>some ⟨QW,F1,0⟩
 |35=>some ⟨QX,M_,0⟩
 |36=>some ⟨QY,F2,0⟩
 |37=>some ⟨VT,IS,0⟩
 |38=>some ⟨VU,IT,0⟩
 |92=>some ⟨P92,R92,0⟩
 |95=>some ⟨Q5,F4,0⟩
 |109=>some ⟨Nu,zZ,0⟩
 |110=>some ⟨abq,Nv,2⟩
 |111=>some ⟨JL,wU,0⟩
 |115=>some ⟨JN,wV,0⟩
 |122=>some ⟨JP,wW,0⟩
 |123=>some ⟨abB,NG,2⟩
 |124=>some ⟨abC,NI,2⟩
 |125=>some ⟨NJ,z9,0⟩
 |126=>some ⟨UO,Fu,1⟩
 |_=>none
theorem fp:Tryz.prog.follows .mixedOrders=true:=by kernel_rfl
def A97 (a0:List aq) (a1:List (Int×Int×Int×List UInt8×List UInt8×List UInt8×List UInt8×Int)) (a2:Int) (H:HP) (K:HT Nn→HP→Prop):Prop:=
 asu a0 [] fun(x1:asb)=>pd k_ (x1.1,a2) H fun i2 H3=>aP a1.length fun n4=>a9 (V:=(Nat×(List (Int×Bool×List UInt8×(List aq)×Int))×(List (Int×Int×Int×List UInt8×List UInt8×List UInt8×List UInt8×Int))×Int×Int×Unit)×Unit) ((i2,[],a1,n4,0,()),()) H3 fun x5 H6 B7=>af (decide (x5.1.2.2.2.2.1<x5.1.2.2.2.1)) (bT x5.1.2.2.1 x5.1.2.2.2.2.1 fun(x8:Int×Int×Int×List UInt8×List UInt8×List UInt8×List UInt8×Int)=>Q22 (x8.1,x8.2.1,x8.2.2.1,x8.2.2.2.1,x8.2.2.2.2.1,x8.2.2.2.2.2.1,x8.2.2.2.2.2.2.1,x8.2.2.2.2.2.2.2) fun(x9:T22)=>af (! x9.1) (cR x5.1.2.1.length 1 72 (B7 ((x5.1.1,x5.1.2.1++[(1,false,[],[],0)],x5.1.2.2.1,x5.1.2.2.2.1,IntKind.i64.wrap (x5.1.2.2.2.2.1+1),()),()) H6)) (abr (some x5.1.1) (x8.1,x8.2.1,x8.2.2.1,x8.2.2.2.1,x8.2.2.2.2.1,x8.2.2.2.2.2.1,x8.2.2.2.2.2.2.1,x8.2.2.2.2.2.2.2) H6 fun(bp:asc) oX=>cR x5.1.2.1.length 1 72 (B7 ((x5.1.1,x5.1.2.1++[(bp.1.1,bp.1.2.1,bp.1.2.2.1,bp.1.2.2.2.1,bp.1.2.2.2.2)],x5.1.2.2.1,x5.1.2.2.2.1,IntKind.i64.wrap (x5.1.2.2.2.2.1+1),()),()) oX))) (aJ k_ x5.1.1 H6 fun(bL:F0)=>K (bL.1,x5.1.2.1,()) (H6.del x5.1.1))
theorem XC (a0 a1 a2 H K) (h:A97 a0 a1 a2 H K):C97 a0 a1 a2 H K:=
 aa fp Tryz.func97 (Eq.mp (by kernel_rfl:A97 a0 a1 a2 H K=bq ⟨Tryz.prog,g_,g9,[],ch⟩ ⟨[(0,.row aj),(1,.row (.cons (.one (.int .i64)) (.cons (.one (.int .i64)) (.cons (.one (.int .i64)) (.cons (.row .byte) (.cons (.row .byte) (.cons (.row .byte) (.cons (.row .byte) (.one (.int .i64)))))))))),(6,.row aj),(7,.own (.cons (.one (.int .i64)) (.cons (.one .bool) (.cons (.row .byte) (.cons (.row aj) (.one (.int .u64)))))) 47),(9,.own (.cons (.one (.int .i64)) (.cons (.one .bool) (.cons (.row .byte) (.cons (.row aj) (.one (.int .u64)))))) 47),(12,.row aj),(13,.row aj),(17,.row (.cons (.one (.int .i64)) (.cons (.one (.int .i64)) (.cons (.one (.int .i64)) (.cons (.row .byte) (.cons (.row .byte) (.cons (.row .byte) (.cons (.row .byte) (.one (.int .i64)))))))))),(26,.own (.cons (.one (.int .i64)) (.cons (.one .bool) (.cons (.row .byte) (.cons (.row aj) (.one (.int .u64)))))) 47),(28,.row (.cons (.one (.int .i64)) (.cons (.one .bool) (.cons (.row .byte) (.cons (.row aj) (.one (.int .u64))))))),(29,.own (.cons (.one (.int .i64)) (.cons (.one .bool) (.cons (.row .byte) (.cons (.row aj) (.one (.int .u64)))))) 47),(30,.own (.cons (.one (.int .i64)) (.cons (.one .bool) (.cons (.row .byte) (.cons (.row aj) (.one (.int .u64)))))) 47),(34,.row (.cons (.one (.int .i64)) (.cons (.one .bool) (.cons (.row .byte) (.cons (.row aj) (.one (.int .u64))))))),(35,.own (.cons (.one (.int .i64)) (.cons (.one .bool) (.cons (.row .byte) (.cons (.row aj) (.one (.int .u64)))))) 47),(40,.row aj),(41,.own (.cons (.one (.int .i64)) (.cons (.one .bool) (.cons (.row .byte) (.cons (.row aj) (.one (.int .u64)))))) 47)],[]⟩ (.seq .n (.seq .n (.seq (.gh [.cls 16 k_] .n) (.seq (.seq .n (.aC (.loop [8,9,17,18,19] [] (.seq .n (.seq (.cond .n .n) (.seq (.aC (.seq .n (.seq (.seq .n (.cond (.seq .n .n) .n)) .n))) .n)))))) (.seq (.gh [.ze 8 k_] .n) .n))))) Tryz.f97 P97 (a0,a1,a2,()) Nn H K) h)
theorem aeW (a0 a1 a2) {r} (h:∀H K,K r H→A97 a0 a1 a2 H K):S97 a0 a1 a2 r:=fun H K hk=>XC a0 a1 a2 H K (h H K hk)
def A22 (a0:Int×Int×Int×List UInt8×List UInt8×List UInt8×List UInt8×Int) (H:HP) (K:HT Ej→HP→Prop):Prop:=
 bE (V:=(Unit×Bool×Unit)×(Int×Int×Int×List UInt8×List UInt8×List UInt8×List UInt8×Int×Unit)×Unit) (fun x1 H2=>bE (V:=(Unit×Bool×Int×Bool×Unit)×(Int×Int×Int×List UInt8×List UInt8×List UInt8×List UInt8×Int×Unit)×Unit) (fun x3 H4=>af x3.1.2.2.2.1 (af x3.1.2.1 (Q37 x3.2.1.2.2.2.1 fun(x5:T37)=>K (x5.1,()) H4) (K (false,()) H4)) (af ((x3.1.2.2.1:Int)==6) (af x3.1.2.1 (VQ (x3.2.1.2.2.2.1,x3.2.1.2.2.2.2.2.2.1) fun(x6:VM)=>af x6.1 (af (decide (x3.2.1.2.2.2.2.2.2.2.1≥1)) (K (decide (x3.2.1.2.2.2.2.2.2.2.1≤100),()) H4) (K (false,()) H4)) (K (false,()) H4)) (K (false,()) H4)) (K (false,()) H4))) fun B7=>af ((x1.2.1.2.2.1:Int)==1) (B7 (((),x1.1.2.1,x1.2.1.2.2.1,(x1.2.1.2.2.1:Int)==1,()),(x1.2.1.1,x1.2.1.2.1,x1.2.1.2.2.1,x1.2.1.2.2.2.1,x1.2.1.2.2.2.2.1,x1.2.1.2.2.2.2.2.1,x1.2.1.2.2.2.2.2.2.1,x1.2.1.2.2.2.2.2.2.2.1,()),()) H2) (af ((x1.2.1.2.2.1:Int)==2) (B7 (((),x1.1.2.1,x1.2.1.2.2.1,(x1.2.1.2.2.1:Int)==2,()),(x1.2.1.1,x1.2.1.2.1,x1.2.1.2.2.1,x1.2.1.2.2.2.1,x1.2.1.2.2.2.2.1,x1.2.1.2.2.2.2.2.1,x1.2.1.2.2.2.2.2.2.1,x1.2.1.2.2.2.2.2.2.2.1,()),()) H2) (af ((x1.2.1.2.2.1:Int)==3) (B7 (((),x1.1.2.1,x1.2.1.2.2.1,(x1.2.1.2.2.1:Int)==3,()),(x1.2.1.1,x1.2.1.2.1,x1.2.1.2.2.1,x1.2.1.2.2.2.1,x1.2.1.2.2.2.2.1,x1.2.1.2.2.2.2.2.1,x1.2.1.2.2.2.2.2.2.1,x1.2.1.2.2.2.2.2.2.2.1,()),()) H2) (af ((x1.2.1.2.2.1:Int)==4) (B7 (((),x1.1.2.1,x1.2.1.2.2.1,(x1.2.1.2.2.1:Int)==4,()),(x1.2.1.1,x1.2.1.2.1,x1.2.1.2.2.1,x1.2.1.2.2.2.1,x1.2.1.2.2.2.2.1,x1.2.1.2.2.2.2.2.1,x1.2.1.2.2.2.2.2.2.1,x1.2.1.2.2.2.2.2.2.2.1,()),()) H2) (B7 (((),x1.1.2.1,x1.2.1.2.2.1,(x1.2.1.2.2.1:Int)==5,()),(x1.2.1.1,x1.2.1.2.1,x1.2.1.2.2.1,x1.2.1.2.2.2.1,x1.2.1.2.2.2.2.1,x1.2.1.2.2.2.2.2.1,x1.2.1.2.2.2.2.2.2.1,x1.2.1.2.2.2.2.2.2.2.1,()),()) H2))))) fun B8=>af (decide (a0.1≥0)) (af (decide (a0.2.1≥0)) (Q36 a0.2.2.2.2.1 fun(x9:T36)=>af x9.1 (Q36 a0.2.2.2.2.2.1 fun(bp:T36)=>B8 (((),bp.1,()),(a0.1,a0.2.1,a0.2.2.1,a0.2.2.2.1,a0.2.2.2.2.1,a0.2.2.2.2.2.1,a0.2.2.2.2.2.2.1,a0.2.2.2.2.2.2.2,()),()) H) (B8 (((),false,()),(a0.1,a0.2.1,a0.2.2.1,a0.2.2.2.1,a0.2.2.2.2.1,a0.2.2.2.2.2.1,a0.2.2.2.2.2.2.1,a0.2.2.2.2.2.2.2,()),()) H)) (B8 (((),false,()),(a0.1,a0.2.1,a0.2.2.1,a0.2.2.2.1,a0.2.2.2.2.1,a0.2.2.2.2.2.1,a0.2.2.2.2.2.2.1,a0.2.2.2.2.2.2.2,()),()) H)) (B8 (((),false,()),(a0.1,a0.2.1,a0.2.2.1,a0.2.2.2.1,a0.2.2.2.2.1,a0.2.2.2.2.2.1,a0.2.2.2.2.2.2.1,a0.2.2.2.2.2.2.2,()),()) H)
theorem XD (a0 H K) (h:A22 a0 H K):C22 a0 H K:=
 aa fp Tryz.func22 (Eq.mp (by kernel_rfl:A22 a0 H K=bq ⟨Tryz.prog,g_,g9,[],ch⟩ ⟨[(14,.row .byte),(19,.row .byte),(33,.row .byte),(41,.row .byte),(43,.row .byte)],[]⟩ (.seq .n (.join [(1,.v (.bx 1 0)),(3,.v (.one .bool))] [(1,[.one (.int .i64),.one (.int .i64),.one (.int .i64),.row .byte,.row .byte,.row .byte,.row .byte,.one (.int .i64)])] .n (.seq (.seq .n (.aC (.join [(1,.v (.bx 1 0)),(3,.v (.one .bool)),(23,.v (.one (.int .i64))),(24,.v (.one .bool))] [(1,[.one (.int .i64),.one (.int .i64),.one (.int .i64),.row .byte,.row .byte,.row .byte,.row .byte,.one (.int .i64)])] (.seq .n (.cond .n (.seq .n (.cond .n (.seq .n (.cond .n (.seq .n (.cond .n .n)))))))) (.cond (.seq .n .n) (.seq .n (.cond (.seq .n .n) .n)))))) (.seq .n .n)))) Tryz.f22 M5 (a0,()) Ej H K) h)
theorem aeX (a0) {r} (h:∀H K,K r H→A22 a0 H K):S22 a0 r:=fun H K hk=>XD a0 H K (h H K hk)
def A14 (a0:Int×Bool×List UInt8×(List aq)×Int) (a1:Int×Bool×List UInt8×(List aq)×Int) (H:HP) (K:HT M1→HP→Prop):Prop:=
 Q31 a0.2.2.2.1 a1.2.2.2.1 fun(x1:T31)=>af ((a0.1:Int)==a1.1) (af ((a0.2.1:Bool)==a1.2.1) (af ((ByteArray.toList (kL a0.2.2.1):List UInt8)==(ByteArray.toList (kL a1.2.2.1))) (K (x1.1,()) H) (K (false,()) H)) (K (false,()) H)) (K (false,()) H)
theorem XE (a0 a1 H K) (h:A14 a0 a1 H K):C14 a0 a1 H K:=
 aa fp Tryz.func14 (Eq.mp (by kernel_rfl:A14 a0 a1 H K=bq ⟨Tryz.prog,g_,g9,[],ch⟩ ⟨[(7,.row aj),(9,.row aj),(25,.row .byte),(28,.row .byte)],[]⟩ (.seq .n (.seq .n (.seq .n .n))) Tryz.f14 P14 (a0,a1,()) M1 H K) h)
theorem aeY (a0 a1) {r} (h:∀H K,K r H→A14 a0 a1 H K):S14 a0 a1 r:=fun H K hk=>XE a0 a1 H K (h H K hk)
def A6 (a0:Int×Int×Int×List UInt8×List UInt8×List UInt8×List UInt8×Int) (H:HP) (K:HT R6→HP→Prop):Prop:=
 aP a0.2.2.2.1.length fun n1=>af (decide (n1≤100)) (aP a0.2.2.2.2.1.length fun n2=>af (decide (n2≤100)) (aP a0.2.2.2.2.2.1.length fun n3=>af (decide (n3≤100)) (aP a0.2.2.2.2.2.2.1.length fun n4=>K (decide (n4≤100),()) H) (K (false,()) H)) (K (false,()) H)) (K (false,()) H)
theorem aeZ (a0 H K) (h:A6 a0 H K):C6 a0 H K:=
 aa fp Tryz.func6 (Eq.mp (by kernel_rfl:A6 a0 H K=bq ⟨Tryz.prog,g_,g9,[],ch⟩ ⟨[(4,.row .byte),(9,.row .byte),(15,.row .byte),(21,.row .byte)],[]⟩ (.seq .n (.seq .n .n)) Tryz.f6 P6 (a0,()) R6 H K) h)
theorem amm (a0) {r} (h:∀H K,K r H→A6 a0 H K):S6 a0 r:=fun H K hk=>aeZ a0 H K (h H K hk)
def UU (a0:List aq) (a1:List aq) (H:HP) (K:HT zZ→HP→Prop):Prop:=
 a9 (V:=((List aq)×(List aq)×(List aq)×Unit)×Unit) ((a0,a1,[],()),()) H fun x1 H2 B3=>aP x1.1.1.length fun n4=>af (decide (n4>0)) (bE (V:=((List aq)×(List aq)×(List aq)×Int×Unit)×Unit) (fun x5 H6=>af (decide (x5.1.2.2.2.1<0)) (bT x5.1.1 0 fun(l7:aq)=>bT x5.1.1 0 fun(l8:aq)=>Bn l7.1 l8.2 fun(x9:Bk)=>fe x5.1.1.length 1 ((x5.1.1.length:Nat):Int) fun i10 i11=>cR x5.1.2.2.1.length 1 48 (B3 ((sub x5.1.1 i10 i11,x5.1.2.1,x5.1.2.2.1++[(x9.1.1,x9.1.2)],()),()) H6)) (bE (V:=((List aq)×(List aq)×(List aq)×Unit)×Unit) (fun bL pA=>bT bL.1.2.1 0 fun(Wb:aq)=>bT bL.1.2.1 0 fun(l15:aq)=>Bn Wb.1 l15.2 fun(sO:Bk)=>fe bL.1.2.1.length 1 ((bL.1.2.1.length:Nat):Int) fun i17 i18=>cR bL.1.2.2.1.length 1 48 (B3 ((bL.1.1,sub bL.1.2.1 i17 i18,bL.1.2.2.1++[(sO.1.1,sO.1.2)],()),()) pA)) fun B19=>af ((x5.1.2.2.2.1:Int)==0) (fe x5.1.1.length 1 ((x5.1.1.length:Nat):Int) fun i20 i21=>B19 ((sub x5.1.1 i20 i21,x5.1.2.1,x5.1.2.2.1,()),()) H6) (B19 ((x5.1.1,x5.1.2.1,x5.1.2.2.1,()),()) H6))) fun B22=>aP x1.1.1.length fun ZR=>af (ZR==0) (B22 ((x1.1.1,x1.1.2.1,x1.1.2.2.1,1,()),()) H2) (aP x1.1.2.1.length fun n24=>af (decide (n24>0)) (bT x1.1.1 0 fun(l25:aq)=>bT x1.1.2.1 0 fun(l26:aq)=>M8 l25.1 l26.1 fun(cr:MY)=>B22 ((x1.1.1,x1.1.2.1,x1.1.2.2.1,cr.1,()),()) H2) (B22 ((x1.1.1,x1.1.2.1,x1.1.2.2.1,(-1),()),()) H2))) (aP x1.1.2.1.length fun n28=>af (decide (n28>0)) (bE (V:=((List aq)×(List aq)×(List aq)×Int×Unit)×Unit) (fun rl H30=>af (decide (rl.1.2.2.2.1<0)) (bT rl.1.1 0 fun(l31:aq)=>bT rl.1.1 0 fun(l32:aq)=>Bn l31.1 l32.2 fun(ZS:Bk)=>fe rl.1.1.length 1 ((rl.1.1.length:Nat):Int) fun i34 i35=>cR rl.1.2.2.1.length 1 48 (B3 ((sub rl.1.1 i34 i35,rl.1.2.1,rl.1.2.2.1++[(ZS.1.1,ZS.1.2)],()),()) H30)) (bE (V:=((List aq)×(List aq)×(List aq)×Unit)×Unit) (fun mO F6=>bT mO.1.2.1 0 fun(l38:aq)=>bT mO.1.2.1 0 fun(l39:aq)=>Bn l38.1 l39.2 fun(oY:Bk)=>fe mO.1.2.1.length 1 ((mO.1.2.1.length:Nat):Int) fun i41 i42=>cR mO.1.2.2.1.length 1 48 (B3 ((mO.1.1,sub mO.1.2.1 i41 i42,mO.1.2.2.1++[(oY.1.1,oY.1.2)],()),()) F6)) fun B43=>af ((rl.1.2.2.2.1:Int)==0) (fe rl.1.1.length 1 ((rl.1.1.length:Nat):Int) fun i44 i45=>B43 ((sub rl.1.1 i44 i45,rl.1.2.1,rl.1.2.2.1,()),()) H30) (B43 ((rl.1.1,rl.1.2.1,rl.1.2.2.1,()),()) H30))) fun B46=>aP x1.1.1.length fun n47=>af (n47==0) (B46 ((x1.1.1,x1.1.2.1,x1.1.2.2.1,1,()),()) H2) (aP x1.1.2.1.length fun n48=>af (decide (n48>0)) (bT x1.1.1 0 fun(l49:aq)=>bT x1.1.2.1 0 fun(l50:aq)=>M8 l49.1 l50.1 fun(fv:MY)=>B46 ((x1.1.1,x1.1.2.1,x1.1.2.2.1,fv.1,()),()) H2) (B46 ((x1.1.1,x1.1.2.1,x1.1.2.2.1,(-1),()),()) H2))) (K (x1.1.2.2.1,()) H2))
theorem SN (a0 a1 H K) (h:UU a0 a1 H K):ast a0 a1 H K:=
 aa fp Tryz.func109 (Eq.mp (by kernel_rfl:UU a0 a1 H K=bq ⟨Tryz.prog,g_,g9,[],ch⟩ ⟨[(0,.row aj),(1,.row aj),(4,.own aj 56),(5,.own aj 56),(7,.row aj),(11,.row aj),(16,.row aj),(20,.row aj),(23,.row aj),(26,.row .byte),(27,.row aj),(30,.row .byte),(34,.own aj 56),(35,.row aj),(38,.row .byte),(39,.row aj),(42,.row .byte),(44,.row aj),(45,.own aj 56),(46,.row aj),(47,.row aj),(50,.row aj),(51,.row aj),(52,.own aj 56),(53,.row aj),(56,.row .byte),(57,.row aj),(60,.row .byte),(62,.row aj),(63,.own aj 56),(64,.row aj),(65,.row aj),(66,.own aj 56)],[]⟩ (.seq .n (.seq .n (.seq (.aC (.loop [0,1,5] [] (.seq (.seq .n (.cond .n .n)) (.aC (.seq .n (.join [(0,.v (.row aj)),(1,.v (.row aj)),(5,.v (.own aj 56)),(6,.v (.one (.int .i64)))] [] (.aC (.seq .n (.cond .n (.seq .n (.cond (.ord 0) .n))))) (.seq (.seq .n (.cond (.seq (.ord 0) .n) .n)) (.join [(0,.v (.row aj)),(1,.v (.row aj)),(5,.v (.own aj 56))] [] (.seq .n (.cond .n .n)) (.ord 0))))))))) (.seq .n .n)))) Tryz.f109 Nu (a0,a1,()) zZ H K) h)
theorem XF (a0 a1) {r} (h:∀H K,K r H→UU a0 a1 H K):aiZ a0 a1 r:=fun H K hk=>SN a0 a1 H K (h H K hk)
def UW (a0:List aq) (a1:aq) (a2:Int) (H:HP) (K:HT z9→HP→Prop):Prop:=
 aP a0.length fun n1=>a9 (V:=(Int×Unit×(List aq)×(List aq)×Int×Int×Unit)×(List UInt8×List UInt8×Unit)×Unit) ((a2,(),[],a0,n1,0,()),(a1.1,a1.2,()),()) H fun x2 H3 B4=>af (decide (x2.1.2.2.2.2.2.1<x2.1.2.2.2.2.1)) (bT x2.1.2.2.2.1 x2.1.2.2.2.2.2.1 fun(l5:aq)=>bE (V:=(Int×Unit×(List aq)×Unit×(List aq)×Int×Int×Bool×Unit)×(List UInt8×List UInt8×Unit)×(List UInt8×List UInt8×Unit)×Unit) (fun x6 H7=>af x6.1.2.2.2.2.2.2.2.1 (Bn x6.2.2.1.1 x6.2.2.1.2.1 fun(x8:Bk)=>cR x6.1.2.2.1.length 1 48 (B4 ((x6.1.1,(),x6.1.2.2.1++[(x8.1.1,x8.1.2)],x6.1.2.2.2.2.1,x6.1.2.2.2.2.2.1,IntKind.i64.wrap (x6.1.2.2.2.2.2.2.1+1),()),(x6.2.1.1,x6.2.1.2.1,()),()) H7)) (B4 ((x6.1.1,(),x6.1.2.2.1,x6.1.2.2.2.2.1,x6.1.2.2.2.2.2.1,IntKind.i64.wrap (x6.1.2.2.2.2.2.2.1+1),()),(x6.2.1.1,x6.2.1.2.1,()),()) H7)) fun B9=>Q38 (x2.2.1.1,x2.2.1.2.1) l5.1 fun(bp:T38)=>af bp.1 (aP x2.1.2.2.1.length fun F8=>B9 ((x2.1.1,(),x2.1.2.2.1,(),x2.1.2.2.2.1,x2.1.2.2.2.2.1,x2.1.2.2.2.2.2.1,decide (F8<x2.1.1),()),(x2.2.1.1,x2.2.1.2.1,()),(l5.1,l5.2,()),()) H3) (B9 ((x2.1.1,(),x2.1.2.2.1,(),x2.1.2.2.2.1,x2.1.2.2.2.2.1,x2.1.2.2.2.2.2.1,false,()),(x2.2.1.1,x2.2.1.2.1,()),(l5.1,l5.2,()),()) H3)) (K (x2.1.2.2.1,()) H3)
theorem SO (a0 a1 a2 H K) (h:UW a0 a1 a2 H K):asA a0 a1 a2 H K:=
 aa fp Tryz.func125 (Eq.mp (by kernel_rfl:UW a0 a1 a2 H K=bq ⟨Tryz.prog,g_,g9,[],ch⟩ ⟨[(0,.row aj),(6,.own aj 56),(7,.own aj 56),(10,.row aj),(18,.row .byte),(21,.own aj 56),(26,.own aj 56),(28,.row .byte),(30,.row .byte),(32,.row aj),(33,.own aj 56),(35,.own aj 56)],[]⟩ (.seq .n (.seq .n (.seq (.seq .n (.aC (.loop [2,4,7,10,11,12] [4] (.seq .n (.seq (.cond .n .n) (.seq (.aC (.seq .n (.join [(2,.v (.one (.int .i64))),(4,.v (.bx 4 0)),(7,.v (.own aj 56)),(9,.v (.bx 9 0)),(10,.v (.row aj)),(11,.v (.one (.int .i64))),(12,.v (.one (.int .i64))),(25,.v (.one .bool))] [(4,[.row .byte,.row .byte]),(9,[.row .byte,.row .byte])] .n (.cond .n .n)))) .n)))))) (.seq .n .n)))) Tryz.f125 NJ (a0,a1,a2,()) z9 H K) h)
theorem XG (a0 a1 a2) {r} (h:∀H K,K r H→UW a0 a1 a2 H K):ajg a0 a1 a2 r:=fun H K hk=>SO a0 a1 a2 H K (h H K hk)
def acf (a0:Option Nat) (a1:Int×Int×Int×List UInt8×List UInt8×List UInt8×List UInt8×Int) (H:HP) (K:HT Nv→HP→Prop):Prop:=
 af ((a1.2.2.1:Int)==2) (NH a0 (a1.1,a1.2.1,a1.2.2.1,a1.2.2.2.1,a1.2.2.2.2.1,a1.2.2.2.2.2.1,a1.2.2.2.2.2.2.1,a1.2.2.2.2.2.2.2) H fun(x1:abf) H2=>K ((x1.1.1,x1.1.2.1,x1.1.2.2.1,x1.1.2.2.2.1,x1.1.2.2.2.2),()) H2) (af ((a1.2.2.1:Int)==5) (abD a0 (a1.1,a1.2.1,a1.2.2.1,a1.2.2.2.1,a1.2.2.2.2.1,a1.2.2.2.2.2.1,a1.2.2.2.2.2.2.1,a1.2.2.2.2.2.2.2) H fun(x3:asg) H4=>K ((x3.1.1,x3.1.2.1,x3.1.2.2.1,x3.1.2.2.2.1,x3.1.2.2.2.2),()) H4) (af ((a1.2.2.1:Int)==6) (ao a0 fun i5=>aJ k_ i5 H fun(x6:F0)=>asB x6.1 (a1.2.2.2.1,a1.2.2.2.2.2.2.1) a1.2.2.2.2.2.2.2 fun(x7:ash)=>K ((0,false,[],x7.1,0),()) H) (abE a0 a1.2.2.2.1 H fun(x8:abg)=>bE (V:=(Unit×Unit×Unit)×(Int×Bool×List UInt8×(List aq)×Int×Unit)×(Int×Bool×List UInt8×(List aq)×Int×Unit)×Unit) (fun x9 sN=>K ((x9.2.2.1.1,x9.2.2.1.2.1,x9.2.2.1.2.2.1,x9.2.2.1.2.2.2.1,x9.2.2.1.2.2.2.2.1),()) sN) fun Ra=>af ((a1.2.2.1:Int)==3) (ao a0 fun i12=>aJ k_ i12 H fun(fG:F0)=>ajb fG.1 a1.2.2.2.1 fun(l_:aib)=>ao a0 fun i15=>aJ k_ i15 H fun(sO:F0)=>Ra (((),(),()),(0,false,[],[],0,()),(x8.1.1,x8.1.2.1,x8.1.2.2.1,x8.1.2.2.2.1,x8.1.2.2.2.2,()),()) (H.set i15 k_ (l_.1,sO.2))) (af ((a1.2.2.1:Int)==4) (af (! x8.1.2.1) (NH a0 (a1.1,a1.2.1,a1.2.2.1,a1.2.2.2.1,a1.2.2.2.2.1,a1.2.2.2.2.2.1,a1.2.2.2.2.2.2.1,a1.2.2.2.2.2.2.2) H fun(gO:abf) IW=>K ((gO.1.1,gO.1.2.1,gO.1.2.2.1,gO.1.2.2.2.1,gO.1.2.2.2.2),()) IW) (Ra (((),(),()),(0,false,[],[],0,()),(x8.1.1,x8.1.2.1,x8.1.2.2.1,x8.1.2.2.2.1,x8.1.2.2.2.2,()),()) H)) (Ra (((),(),()),(0,false,[],[],0,()),(x8.1.1,x8.1.2.1,x8.1.2.2.1,x8.1.2.2.2.1,x8.1.2.2.2.2,()),()) H)))))
theorem SP (a0 a1 H K) (h:acf a0 a1 H K):abr a0 a1 H K:=
 aa fp Tryz.func110 (Eq.mp (by kernel_rfl:acf a0 a1 H K=bq ⟨Tryz.prog,g_,g9,[],ch⟩ ⟨[(23,.row aj),(25,.row .byte),(27,.row .byte),(31,.row aj),(35,.row .byte),(46,.row aj),(48,.row .byte),(50,.row aj)],[]⟩ (.seq .n (.seq (.seq .n (.aC (.seq .n (.cond (.seq .n .n) (.seq .n (.cond (.seq .n .n) (.seq .n (.cond (.seq (.ord 151115727451828646838272) .n) .n)))))))) (.seq .n (.join [(4,.v (.bx 4 0)),(5,.v (.bx 5 0))] [(4,[.one (.int .i64),.one .bool,.row .byte,.row aj,.one (.int .u64)]),(5,[.one (.int .i64),.one .bool,.row .byte,.row aj,.one (.int .u64)])] (.aC (.seq .n (.cond (.ord 8192) (.seq .n (.cond (.seq .n .n) .n))))) (.seq .n .n))))) Tryz.f110 abq (a0,a1,()) Nv H K) h)
def acg (a0:Option Nat) (a1:Int×Int×Int×List UInt8×List UInt8×List UInt8×List UInt8×Int) (H:HP) (K:HT NG→HP→Prop):Prop:=
 abE a0 a1.2.2.2.1 H fun(x1:abg)=>af (! x1.1.2.1) (ao a0 fun i2=>aJ k_ i2 H fun(x3:F0)=>aP x3.1.length fun n4=>ao a0 fun i5=>aJ k_ i5 H fun(x6:F0)=>af (decide (n4≥x6.2)) (K ((5,false,[],[],0),()) H) (bE (V:=(Unit×Unit×Unit)×(Int×Bool×List UInt8×(List aq)×Int×Unit)×(Int×Bool×List UInt8×(List aq)×Int×Unit)×Unit) (fun x7 H8=>K ((x7.2.2.1.1,x7.2.2.1.2.1,x7.2.2.1.2.2.1,x7.2.2.1.2.2.2.1,x7.2.2.1.2.2.2.2.1),()) H8) fun B9=>ao a0 fun i10=>aJ k_ i10 H fun(br:F0)=>abt br.1 a1.2.2.2.1 a1.2.2.2.2.1 fun(bL:abd)=>((cB bL.2.2.1:Bool)=true)∧(af (bj bL.2.2.1) (ao a0 fun i13=>aJ k_ i13 H fun(l_:F0)=>B9 (((),(),()),(0,false,[],[],0,()),(x1.1.1,x1.1.2.1,x1.1.2.2.1,x1.1.2.2.2.1,x1.1.2.2.2.2,()),()) (H.set i13 k_ (bL.1,l_.2))) (B9 (((),(),()),(0,false,[],[],0,()),(x1.1.1,x1.1.2.1,x1.1.2.2.1,x1.1.2.2.2.1,x1.1.2.2.2.2,()),()) H)))) (bE (V:=(Unit×Unit×Unit)×(Int×Bool×List UInt8×(List aq)×Int×Unit)×(Int×Bool×List UInt8×(List aq)×Int×Unit)×Unit) (fun dG xR=>K ((dG.2.2.1.1,dG.2.2.1.2.1,dG.2.2.1.2.2.1,dG.2.2.1.2.2.2.1,dG.2.2.1.2.2.2.2.1),()) xR) fun Q_=>ao a0 fun i18=>aJ k_ i18 H fun(c8:F0)=>abt c8.1 a1.2.2.2.1 a1.2.2.2.2.1 fun(dU:abd)=>((cB dU.2.2.1:Bool)=true)∧(af (bj dU.2.2.1) (ao a0 fun i21=>aJ k_ i21 H fun(kK:F0)=>Q_ (((),(),()),(0,false,[],[],0,()),(x1.1.1,x1.1.2.1,x1.1.2.2.1,x1.1.2.2.2.1,x1.1.2.2.2.2,()),()) (H.set i21 k_ (dU.1,kK.2))) (Q_ (((),(),()),(0,false,[],[],0,()),(x1.1.1,x1.1.2.1,x1.1.2.2.1,x1.1.2.2.2.1,x1.1.2.2.2.2,()),()) H)))
theorem SQ (a0 a1 H K) (h:acg a0 a1 H K):NH a0 a1 H K:=
 aa fp Tryz.func123 (Eq.mp (by kernel_rfl:acg a0 a1 H K=bq ⟨Tryz.prog,g_,g9,[],ch⟩ ⟨[(6,.row aj),(8,.one .any),(11,.row .byte),(20,.row aj),(33,.row aj),(35,.row .byte),(37,.row .byte),(39,.row aj),(41,.one .any),(42,.one .any),(45,.row aj)],[]⟩ (.seq .n (.seq .n (.seq (.seq (.ord 0) (.cond (.seq .n .n) .n)) (.join [(4,.v (.bx 4 0)),(5,.v (.bx 5 0))] [(4,[.one (.int .i64),.one .bool,.row .byte,.row aj,.one (.int .u64)]),(5,[.one (.int .i64),.one .bool,.row .byte,.row aj,.one (.int .u64)])] (.seq (.ord 0) (.seq .n (.cond .n .n))) (.seq .n .n))))) Tryz.f123 abB (a0,a1,()) NG H K) h)
def ach (a0:Option Nat) (a1:Int×Int×Int×List UInt8×List UInt8×List UInt8×List UInt8×Int) (H:HP) (K:HT NI→HP→Prop):Prop:=
 abE a0 a1.2.2.2.1 H fun(x1:abg)=>af (! x1.1.2.1) (K ((3,false,[],[],0),()) H) (Q92 x1.1.2.2.1 a1.2.2.2.2.2.1 fun(x2:T92)=>af (! x2.1) (K ((10,x1.1.2.1,x1.1.2.2.1,x1.1.2.2.2.1,x1.1.2.2.2.2),()) H) (NH a0 (a1.1,a1.2.1,a1.2.2.1,a1.2.2.2.1,a1.2.2.2.2.1,a1.2.2.2.2.2.1,a1.2.2.2.2.2.2.1,a1.2.2.2.2.2.2.2) H fun(x3:abf) H4=>K ((x3.1.1,x3.1.2.1,x3.1.2.2.1,x3.1.2.2.2.1,x3.1.2.2.2.2),()) H4))
theorem SR (a0 a1 H K) (h:ach a0 a1 H K):abD a0 a1 H K:=
 aa fp Tryz.func124 (Eq.mp (by kernel_rfl:ach a0 a1 H K=bq ⟨Tryz.prog,g_,g9,[],ch⟩ ⟨[(8,.row .byte),(17,.row .byte),(19,.row .byte)],[]⟩ (.seq .n (.seq .n (.seq (.aC (.seq .n (.cond (.seq .n .n) (.seq .n (.cond (.seq .n (.seq .n .n)) .n))))) (.seq .n .n)))) Tryz.f124 abC (a0,a1,()) NI H K) h)
def aci (a0:Option Nat) (a1:List UInt8) (H:HP) (K:HT Fu→HP→Prop):Prop:=
 ao a0 fun i1=>aJ k_ i1 H fun(x2:F0)=>Q95 x2.1 a1 fun(x3:T95)=>af (! x3.2.1) (K ((0,false,[],[],0),()) H) (ao a0 fun i4=>aJ k_ i4 H fun(x5:F0)=>bT x5.1 x3.1 fun(l6:aq)=>oI l6.2 fun(l7:od)=>K ((0,true,l7.1,[],0),()) H)
theorem SU (a0 a1 H K) (h:aci a0 a1 H K):ajh a0 a1 H K:=
 aa fp Tryz.func126 (Eq.mp (by kernel_rfl:aci a0 a1 H K=bq ⟨Tryz.prog,g_,g9,[],ch⟩ ⟨[(1,.row .byte),(11,.row aj),(12,.row .byte),(22,.row aj),(26,.row .byte),(27,.row .byte)],[]⟩ (.seq .n (.seq .n (.seq (.seq .n (.cond (.seq .n .n) .n)) (.seq .n .n)))) Tryz.f126 UO (a0,a1,()) Fu H K) h)
def fI:TypeId→Option AK
 |192=>some (k_)
 |_=>none
def fJ:FuncId→Option oW
 |29=>some ⟨P29,M6,0⟩
 |32=>some ⟨QW,F1,0⟩
 |35=>some ⟨QX,M_,0⟩
 |36=>some ⟨QY,F2,0⟩
 |37=>some ⟨VT,IS,0⟩
 |58=>some ⟨ZI,Q2,0⟩
 |95=>some ⟨Q5,F4,0⟩
 |107=>some ⟨Nt,zY,0⟩
 |108=>some ⟨UK,Fq,0⟩
 |122=>some ⟨JP,wW,0⟩
 |127=>some ⟨abF,NK,2⟩
 |128=>some ⟨abG,UQ,2⟩
 |132=>some ⟨ajj,abK,2⟩
 |_=>none
theorem dp:Tryz.prog.follows .mixedOrders=true:=by kernel_rfl
def A29 (a0:List UInt8) (a1:List UInt8) (H:HP) (K:HT M6→HP→Prop):Prop:=
 a9 (V:=(List UInt8×List UInt8×Int×Unit)×Unit) ((a0,a1,0,()),()) H fun x1 H2 B3=>aP x1.1.1.length fun n4=>af (decide (x1.1.2.2.1<n4)) (aP x1.1.2.1.length fun n5=>af (decide (x1.1.2.2.1<n5)) (bT x1.1.1 x1.1.2.2.1 fun(x6:UInt8)=>bT x1.1.2.1 x1.1.2.2.1 fun(x7:UInt8)=>af ((((UInt8.toNat x6:Nat):Int):Int)!=((UInt8.toNat x7:Nat):Int)) (bT x1.1.1 x1.1.2.2.1 fun(x8:UInt8)=>bT x1.1.2.1 x1.1.2.2.1 fun(x9:UInt8)=>K (decide (((UInt8.toNat x8:Nat):Int)<((UInt8.toNat x9:Nat):Int)),()) H2) (B3 ((x1.1.1,x1.1.2.1,IntKind.i64.wrap (x1.1.2.2.1+1),()),()) H2)) (aP x1.1.1.length fun xN=>aP x1.1.2.1.length fun F8=>K (decide (xN<F8),()) H2)) (aP x1.1.1.length fun n12=>aP x1.1.2.1.length fun vT=>K (decide (n12<vT),()) H2)
theorem X0 (a0 a1 H K) (h:A29 a0 a1 H K):C29 a0 a1 H K:=
 aa dp Tryz.func29 (Eq.mp (by kernel_rfl:A29 a0 a1 H K=bq ⟨Tryz.prog,fJ,fI,[],ch⟩ ⟨[(0,.row .byte),(1,.row .byte),(7,.row .byte),(12,.row .byte),(18,.row .byte),(22,.row .byte),(27,.row .byte),(31,.row .byte),(36,.row .byte),(38,.row .byte)],[]⟩ (.seq .n (.seq (.seq .n (.aC (.loop [0,1,5] [] (.seq (.seq .n (.cond .n .n)) (.seq (.aC (.seq (.ord 0) (.cond (.seq (.ord 0) .n) .n))) .n))))) (.seq .n .n))) Tryz.f29 P29 (a0,a1,()) M6 H K) h)
theorem afr (a0 a1) {r} (h:∀H K,K r H→A29 a0 a1 H K):S29 a0 a1 r:=fun H K hk=>X0 a0 a1 H K (h H K hk)
def A31 (a0:List aq) (a1:List aq) (H:HP) (K:HT M7→HP→Prop):Prop:=
 aP a0.length fun n1=>aP a1.length fun n2=>af (n1 !=n2) (K (false,()) H) (a9 (V:=((List aq)×(List aq)×Int×Unit)×Unit) ((a0,a1,0,()),()) H fun x3 H4 B5=>aP x3.1.1.length fun n6=>af (decide (x3.1.2.2.1<n6)) (bT x3.1.1 x3.1.2.2.1 fun(l7:aq)=>bT x3.1.2.1 x3.1.2.2.1 fun(l8:aq)=>af (! ((ByteArray.toList (kL l7.1):List UInt8)==(ByteArray.toList (kL l8.1)))) (K (false,()) H4) (bT x3.1.1 x3.1.2.2.1 fun(l9:aq)=>bT x3.1.2.1 x3.1.2.2.1 fun(ZO:aq)=>af (! ((ByteArray.toList (kL l9.2):List UInt8)==(ByteArray.toList (kL ZO.2)))) (K (false,()) H4) (B5 ((x3.1.1,x3.1.2.1,IntKind.i64.wrap (x3.1.2.2.1+1),()),()) H4))) (K (true,()) H4))
theorem X1 (a0 a1 H K) (h:A31 a0 a1 H K):C31 a0 a1 H K:=
 aa dp Tryz.func31 (Eq.mp (by kernel_rfl:A31 a0 a1 H K=bq ⟨Tryz.prog,fJ,fI,[],ch⟩ ⟨[(0,.row aj),(1,.row aj),(6,.row aj),(8,.row aj),(12,.row aj),(17,.row aj),(21,.row .byte),(23,.row aj),(27,.row .byte),(31,.row aj),(35,.row .byte),(37,.row aj),(41,.row .byte)],[]⟩ (.seq .n (.seq (.seq .n (.cond (.seq .n .n) .n)) (.seq (.seq .n (.aC (.loop [0,1,5] [] (.seq (.seq .n (.cond .n .n)) (.seq (.aC (.seq (.ord 0) (.cond (.seq .n .n) .n))) .n))))) (.seq .n .n)))) Tryz.f31 P31 (a0,a1,()) M7 H K) h)
theorem afs (a0 a1) {r} (h:∀H K,K r H→A31 a0 a1 H K):S31 a0 a1 r:=fun H K hk=>X1 a0 a1 H K (h H K hk)
def A12 (a0:aq) (a1:List UInt8) (H:HP) (K:HT M0→HP→Prop):Prop:=
 Q29 a1 a0.1 fun(x1:T29)=>Q29 a1 a0.2 fun(x2:T29)=>af (! x1.1) (aP a0.2.length fun n3=>af (n3==0) (K (true,()) H) (K (x2.1,()) H)) (K (false,()) H)
theorem X2 (a0 a1 H K) (h:A12 a0 a1 H K):C12 a0 a1 H K:=
 aa dp Tryz.func12 (Eq.mp (by kernel_rfl:A12 a0 a1 H K=bq ⟨Tryz.prog,fJ,fI,[],ch⟩ ⟨[(1,.row .byte),(7,.row .byte),(9,.row .byte),(11,.row .byte),(13,.row .byte),(19,.row .byte)],[]⟩ (.seq .n (.seq .n (.seq .n (.seq .n .n)))) Tryz.f12 P12 (a0,a1,()) M0 H K) h)
theorem aft (a0 a1) {r} (h:∀H K,K r H→A12 a0 a1 H K):S12 a0 a1 r:=fun H K hk=>X2 a0 a1 H K (h H K hk)
def A95 (a0:List aq) (a1:List UInt8) (H:HP) (K:HT F4→HP→Prop):Prop:=
 ass a0 a1 fun(x1:asa)=>K (x1.1,x1.2.1,()) H
theorem X3 (a0 a1 H K) (h:A95 a0 a1 H K):C95 a0 a1 H K:=
 aa dp Tryz.func95 (Eq.mp (by kernel_rfl:A95 a0 a1 H K=bq ⟨Tryz.prog,fJ,fI,[],ch⟩ ⟨[(0,.row aj),(1,.row .byte),(6,.row aj),(7,.row .byte)],[]⟩ (.seq .n (.seq .n .n)) Tryz.f95 Q5 (a0,a1,()) F4 H K) h)
theorem afu (a0 a1) {r} (h:∀H K,K r H→A95 a0 a1 H K):S95 a0 a1 r:=fun H K hk=>X3 a0 a1 H K (h H K hk)
def U2 (a0:List aq) (a1:List UInt8) (H:HP) (K:HT wV→HP→Prop):Prop:=
 Q95 a0 a1 fun(x1:T95)=>UP a0 H fun(x2:aid) H3=>bE (V:=(Bool×(List aq)×Unit)×Unit) (fun x4 H5=>K (x4.1.2.1,x4.1.1,()) H5) fun B6=>af x1.2.1 (asC x2.1 x1.1 (IntKind.i64.wrap (x1.1+1)) H3 fun(x7:asi) H8=>B6 ((x1.2.1,x7.1,()),()) H8) (B6 ((x1.2.1,x2.1,()),()) H3)
theorem S1 (a0 a1 H K) (h:U2 a0 a1 H K):asw a0 a1 H K:=
 aa dp Tryz.func115 (Eq.mp (by kernel_rfl:U2 a0 a1 H K=bq ⟨Tryz.prog,fJ,fI,[],ch⟩ ⟨[(0,.row aj),(1,.row .byte),(4,.own aj 56),(8,.own aj 56),(10,.row aj),(11,.row .byte),(15,.row aj),(16,.own aj 56),(18,.own aj 56),(22,.own aj 56),(23,.own aj 56)],[]⟩ (.seq .n (.seq .n (.seq .n (.join [(7,.v (.one .bool)),(8,.v (.own aj 56))] [] (.seq .n (.cond .n .n)) (.seq .n .n))))) Tryz.f115 JN (a0,a1,()) wV H K) h)
theorem X4 (a0 a1) {r} (h:∀H K,K r H→U2 a0 a1 H K):ajc a0 a1 r:=fun H K hk=>S1 a0 a1 H K (h H K hk)
def U3 (a0:List aq) (a1:List UInt8) (a2:List UInt8) (H:HP) (K:HT wU→HP→Prop):Prop:=
 Q37 a1 fun(x1:T37)=>af (! x1.1) (K ([],false,.iface 62 (.int .i64 1),()) H) (Q36 a2 fun(x2:T36)=>af (! x2.1) (K ([],false,.iface 62 (.int .i64 1),()) H) (Q95 a0 a1 fun(x3:T95)=>UP a0 H fun(x4:aid) H5=>af x3.2.1 (Bn a1 a2 fun(x6:Bk)=>cS x3.1 x4.1.length fun i7=>gN x4.1 i7 fun(l8:aq)=>K (List.set x4.1 i7 (x6.1.1,x6.1.2),false,.nilIface,()) H5) (Bn a1 a2 fun(x9:Bk)=>aji x4.1 x3.1 [(x9.1.1,x9.1.2)] H5 fun(bp:aie) oX=>K (bp.1,true,.nilIface,()) oX)))
theorem S3 (a0 a1 a2 H K) (h:U3 a0 a1 a2 H K):asv a0 a1 a2 H K:=
 aa dp Tryz.func111 (Eq.mp (by kernel_rfl:U3 a0 a1 a2 H K=bq ⟨Tryz.prog,fJ,fI,[],ch⟩ ⟨[(0,.row aj),(1,.row .byte),(2,.row .byte),(6,.own aj 56),(8,.one .any),(11,.own aj 56),(12,.row .byte),(16,.row .byte),(20,.one .any),(22,.row aj),(23,.row .byte),(27,.row aj),(28,.own aj 56),(30,.own aj 56),(32,.row .byte),(33,.row .byte),(36,.own aj 56),(37,.own aj 56),(39,.row .byte),(40,.row .byte),(42,.row aj),(43,.own aj 56)],[]⟩ (.seq .n (.seq (.seq .n (.cond (.seq .n .n) .n)) (.seq .n (.seq .n (.seq (.seq .n (.cond (.seq .n (.seq .n .n)) .n)) (.seq .n .n)))))) Tryz.f111 JL (a0,a1,a2,()) wU H K) h)
theorem X5 (a0 a1 a2) {r} (h:∀H K,K r H→U3 a0 a1 a2 H K):aja a0 a1 a2 r:=fun H K hk=>S3 a0 a1 a2 H K (h H K hk)
def A37 (a0:List UInt8) (H:HP) (K:HT IS→HP→Prop):Prop:=
 aP a0.length fun n1=>af (decide (n1≥1)) (aP a0.length fun n2=>K (decide (n2≤16),()) H) (K (false,()) H)
theorem X6 (a0 H K) (h:A37 a0 H K):C37 a0 H K:=
 aa dp Tryz.func37 (Eq.mp (by kernel_rfl:A37 a0 H K=bq ⟨Tryz.prog,fJ,fI,[],ch⟩ ⟨[(0,.row .byte),(3,.row .byte),(7,.row .byte)],[]⟩ (.seq .n (.seq .n .n)) Tryz.f37 VT (a0,()) IS H K) h)
theorem afv (a0) {r} (h:∀H K,K r H→A37 a0 H K):S37 a0 r:=fun H K hk=>X6 a0 H K (h H K hk)
def A36 (a0:List UInt8) (H:HP) (K:HT F2→HP→Prop):Prop:=
 aP a0.length fun n1=>K (decide (n1≤32),()) H
theorem X7 (a0 H K) (h:A36 a0 H K):C36 a0 H K:=
 aa dp Tryz.func36 (Eq.mp (by kernel_rfl:A36 a0 H K=bq ⟨Tryz.prog,fJ,fI,[],ch⟩ ⟨[(0,.row .byte),(3,.row .byte)],[]⟩ (.seq .n (.seq .n .n)) Tryz.f36 QY (a0,()) F2 H K) h)
theorem afw (a0) {r} (h:∀H K,K r H→A36 a0 H K):S36 a0 r:=fun H K hk=>X7 a0 H K (h H K hk)
def A32 (a0:List UInt8) (a1:List UInt8) (H:HP) (K:HT F1→HP→Prop):Prop:=
 Q58 a0 a1 fun(x1:T58)=>K (x1.1,()) H
theorem X8 (a0 a1 H K) (h:A32 a0 a1 H K):C32 a0 a1 H K:=
 aa dp Tryz.func32 (Eq.mp (by kernel_rfl:A32 a0 a1 H K=bq ⟨Tryz.prog,fJ,fI,[],ch⟩ ⟨[(0,.row .byte),(1,.row .byte),(5,.row .byte),(6,.row .byte)],[]⟩ (.seq .n (.seq .n .n)) Tryz.f32 QW (a0,a1,()) F1 H K) h)
theorem afx (a0 a1) {r} (h:∀H K,K r H→A32 a0 a1 H K):S32 a0 a1 r:=fun H K hk=>X8 a0 a1 H K (h H K hk)
def U4 (a0:List aq) (a1:List UInt8) (H:HP) (K:HT zY→HP→Prop):Prop:=
 aP a0.length fun n1=>a9 (V:=((List aq)×List UInt8×Unit×Int×Int×Int×Unit)×Unit) ((a0,a1,(),n1,0,n1,()),()) H fun x2 H3 B4=>af (decide (x2.1.2.2.2.2.1<x2.1.2.2.2.2.2.1)) ((((0:Int)≤1))∧(bT x2.1.1 (IntKind.i64.wrap (gA .u64 (IntKind.u64.wrap (IntKind.i64.wrap (x2.1.2.2.2.2.1+x2.1.2.2.2.2.2.1))) 1)) fun(l5:aq)=>abp (l5.1,l5.2) x2.1.2.1 H3 fun(x6:ahZ) H7=>af (decide (x6.1<0)) (B4 ((x2.1.1,x2.1.2.1,(),x2.1.2.2.2.1,IntKind.i64.wrap ((IntKind.i64.wrap (gA .u64 (IntKind.u64.wrap (IntKind.i64.wrap (x2.1.2.2.2.2.1+x2.1.2.2.2.2.2.1))) 1))+1),x2.1.2.2.2.2.2.1,()),()) H7) (B4 ((x2.1.1,x2.1.2.1,(),x2.1.2.2.2.1,x2.1.2.2.2.2.1,IntKind.i64.wrap (gA .u64 (IntKind.u64.wrap (IntKind.i64.wrap (x2.1.2.2.2.2.1+x2.1.2.2.2.2.2.1))) 1),()),()) H7))) (af (decide (x2.1.2.2.2.2.1<x2.1.2.2.2.1)) (bT x2.1.1 x2.1.2.2.2.2.1 fun(l8:aq)=>abp (l8.1,l8.2) x2.1.2.1 H3 fun(x9:ahZ) sN=>K (x2.1.2.2.2.2.1,(x9.1:Int)==0,()) sN) (K (x2.1.2.2.2.2.1,false,()) H3))
theorem S4 (a0 a1 H K) (h:U4 a0 a1 H K):asr a0 a1 H K:=
 aa dp Tryz.func107 (Eq.mp (by kernel_rfl:U4 a0 a1 H K=bq ⟨Tryz.prog,fJ,fI,[],ch⟩ ⟨[(0,.row aj),(1,.row .byte),(12,.row aj),(25,.row aj),(29,.row .byte),(41,.row aj),(45,.row .byte)],[]⟩ (.seq .n (.seq .n (.seq .n (.seq (.aC (.loop [0,1,2,8,9,10] [] (.seq (.seq .n (.cond .n .n)) (.aC (.seq .n (.seq .n (.cond .n .n))))))) (.seq .n .n))))) Tryz.f107 Nt (a0,a1,.func (.func 108) #[] #[],()) zY H K) h)
theorem X9 (a0 a1) {r} (h:∀H K,K r H→U4 a0 a1 H K):aiX a0 a1 r:=fun H K hk=>S4 a0 a1 H K (h H K hk)
def U5 (a0:aq) (a1:List UInt8) (H:HP) (K:HT Fq→HP→Prop):Prop:=
 M8 a0.1 a1 fun(x1:MY)=>K (x1.1,()) H
theorem S5 (a0 a1 H K) (h:U5 a0 a1 H K):abp a0 a1 H K:=
 aa dp Tryz.func108 (Eq.mp (by kernel_rfl:U5 a0 a1 H K=bq ⟨Tryz.prog,fJ,fI,[],ch⟩ ⟨[(1,.row .byte),(6,.row .byte),(7,.row .byte)],[]⟩ (.seq .n (.seq .n .n)) Tryz.f108 UK (a0,a1,()) Fq H K) h)
theorem X_ (a0 a1) {r} (h:∀H K,K r H→U5 a0 a1 H K):aiY a0 a1 r:=fun H K hk=>S5 a0 a1 H K (h H K hk)
def acu (a0:List aq) (H:HP) (K:HT NK→HP→Prop):Prop:=
 aP a0.length fun n1=>a9 (V:=((List aq)×(List aq)×Int×Int×Unit)×Unit) (([],a0,n1,0,()),()) H fun x2 H3 B4=>af (decide (x2.1.2.2.2.1<x2.1.2.2.1)) (bT x2.1.2.1 x2.1.2.2.2.1 fun(l5:aq)=>Bn l5.1 l5.2 fun(x6:Bk)=>cR x2.1.1.length 1 48 (B4 ((x2.1.1++[(x6.1.1,x6.1.2)],x2.1.2.1,x2.1.2.2.1,IntKind.i64.wrap (x2.1.2.2.2.1+1),()),()) H3)) (K (x2.1.1,()) H3)
theorem S9 (a0 H K) (h:acu a0 H K):UP a0 H K:=
 aa dp Tryz.func127 (Eq.mp (by kernel_rfl:acu a0 H K=bq ⟨Tryz.prog,fJ,fI,[],ch⟩ ⟨[(0,.row aj),(2,.own aj 56),(3,.own aj 56),(6,.row aj),(12,.own aj 56),(14,.row .byte),(16,.row .byte),(18,.row aj),(19,.own aj 56),(21,.own aj 56)],[]⟩ (.seq .n (.seq .n (.seq (.seq .n (.aC (.loop [3,6,7,8] [] (.seq .n (.seq (.cond .n .n) (.seq (.aC (.seq .n .n)) .n)))))) (.seq .n .n)))) Tryz.f127 abF (a0,()) NK H K) h)
def U6 (a0:List UInt8) (a1:List UInt8) (H:HP) (K:HT wW→HP→Prop):Prop:=
 oI a0 fun(l1:od)=>oI a1 fun(l2:od)=>K ((l1.1,l2.1),()) H
theorem S_ (a0 a1 H K) (h:U6 a0 a1 H K):asz a0 a1 H K:=
 aa dp Tryz.func122 (Eq.mp (by kernel_rfl:U6 a0 a1 H K=bq ⟨Tryz.prog,fJ,fI,[],ch⟩ ⟨[(0,.row .byte),(1,.row .byte),(5,.row .byte),(6,.row .byte),(7,.row .byte),(8,.row .byte)],[]⟩ (.seq .n (.seq .n .n)) Tryz.f122 JP (a0,a1,()) wW H K) h)
theorem Ya (a0 a1) {r} (h:∀H K,K r H→U6 a0 a1 H K):ajf a0 a1 r:=fun H K hk=>S_ a0 a1 H K (h H K hk)
def A16 (a0:aq) (H:HP) (K:HT IQ→HP→Prop):Prop:=
 aP a0.1.length fun n1=>af (decide (n1≤16)) (aP a0.2.length fun n2=>af (decide (n2≤16)) (aP a0.2.length fun n3=>af (n3==0) (K (true,()) H) (M8 a0.1 a0.2 fun(x4:MY)=>K (decide (x4.1<0),()) H)) (K (false,()) H)) (K (false,()) H)
theorem Yb (a0 H K) (h:A16 a0 H K):C16 a0 H K:=
 aa dp Tryz.func16 (Eq.mp (by kernel_rfl:A16 a0 H K=bq ⟨Tryz.prog,fJ,fI,[],ch⟩ ⟨[(4,.row .byte),(9,.row .byte),(15,.row .byte),(20,.row .byte),(22,.row .byte)],[]⟩ (.seq .n (.seq .n .n)) Tryz.f16 VP (a0,()) IQ H K) h)
theorem afy (a0) {r} (h:∀H K,K r H→A16 a0 H K):S16 a0 r:=fun H K hk=>Yb a0 H K (h H K hk)
def A38 (a0:aq) (a1:List UInt8) (H:HP) (K:HT IT→HP→Prop):Prop:=
 M8 a0.1 a1 fun(x1:MY)=>af (decide (x1.1≤0)) (aP a0.2.length fun n2=>af (n2==0) (K (true,()) H) (M8 a1 a0.2 fun(x3:MY)=>K (decide (x3.1<0),()) H)) (K (false,()) H)
theorem Yc (a0 a1 H K) (h:A38 a0 a1 H K):C38 a0 a1 H K:=
 aa dp Tryz.func38 (Eq.mp (by kernel_rfl:A38 a0 a1 H K=bq ⟨Tryz.prog,fJ,fI,[],ch⟩ ⟨[(1,.row .byte),(6,.row .byte),(7,.row .byte),(12,.row .byte),(16,.row .byte),(18,.row .byte)],[]⟩ (.seq .n (.seq .n .n)) Tryz.f38 VU (a0,a1,()) IT H K) h)
theorem afz (a0 a1) {r} (h:∀H K,K r H→A38 a0 a1 H K):S38 a0 a1 r:=fun H K hk=>Yc a0 a1 H K (h H K hk)
end Go.Proofs.YtmoebnnbjppjbaaGreat
set_option linter.unusedSimpArgs false
set_option linter.unusedVariables false
namespace Go.Gp
open Go
def jZ (W:World) (g:Nat) (e:TypeId) (C:List Value):Prop:=W.heap[g]?=some (.cells ⟨C⟩ e (0,0))
theorem jZ.lt {W:World} {g:Nat} {e:TypeId} {C:List Value} (h:jZ W g e C):g<W.heap.size:=(Array.getElem?_eq_some_iff.1 h).1
theorem setRow_size (W:World) (g:Nat) (cs:Array Value):(W.setRow g cs).heap.size=W.heap.size:=by simp
theorem j3 {W:World} {g:Nat} {e:TypeId} {C:List Value} (h:jZ W g e C) (C':List Value):jZ (W.setRow g ⟨C'⟩) g e C':=setRow_heap W g _ _ e (0,0) h
theorem setRow_other (W:World) (g:Nat) (cs:Array Value) {b:Nat} (hb:b≠g):(W.setRow g cs).heap[b]?=W.heap[b]?:=by
 unfold World.setRow
 grind
theorem gW (W:World) (g:Nat) (cs:Array Value):aV [g] W (W.setRow g cs):=
 ⟨rfl,rfl,rfl,by simp,fun b _ hn=>setRow_other W g cs (by simp_all)⟩
theorem jZ.cell {W:World} {g:Nat} {e:TypeId} {C:List Value} (h:jZ W g e C) (i:Nat):W.cell? ⟨g,i,none⟩=C[i]?:=by
 unfold World.cell?
 rw[h]
 simp
theorem Mc {W:World} {e:TypeId} {size:Nat} {s:Sl} {xs:List Value} (h:bX W 0 e size s xs) (hn:s.len≠0):∃g C,s.a=some ⟨g,0,none⟩∧jZ W g e C∧s.len≤s.cap∧s.cap≤maxLen∧C.length=s.cap*size∧C.take (s.len*size)=xs:=by
 rcases h.2 with⟨_,h0⟩|⟨g,cap,cur,hv,_,hg,h1,h2,h3,h4⟩
 ·omega
 ·injection hv with e1 e2 e3
  subst e3
  exact⟨g,cur.toList,e1,hg,h1,h2,by omega,h4⟩
theorem D4 {W:World} {e:TypeId} {size g n cap:Nat} {C:List Value} (h:jZ W g e C) (h1:n≤cap) (h2:cap≤maxLen) (h3:C.length=cap*size):bX W 0 e size ⟨some ⟨g,0,none⟩,n,cap⟩ (C.take (n*size)):=
 ⟨by simp_all,.inr ⟨g,cap,⟨C⟩,rfl,Nat.zero_le _,h,h1,h2,by omega,rfl⟩⟩
section
variable {P:Program} {W:World}
theorem oA {t t' ty e:TypeId} {i:TypeInfo} (ht:P.underlying t=some (.slice e)) (hi:P.info? e=some i) {g o dl dc:Nat} {a:Addr} {sl sc:Nat} {C cs:List Value} {et:TypeId} (hg:jZ W g et C)
 {k:Nat} (hk:k=Nat.min sl dl) (hl:cs.length=k*i.size) (acT:∀j v,cs[j]?=some v→W.cell? (a.add j)=some v) (ld:o+cs.length≤C.length) (h1:∀v∈cs,v.oneCell'=true):
 (Builtin.copy_ #[t,t'] ty #[.slice (some ⟨g,o,none⟩) dl dc,.slice (some a) sl sc]).run P W=.ok (goInt k) (W.setRow g ⟨C.take o++cs++C.drop (o+cs.length)⟩):=by
 have hld:=run_loadCells_list (P:=P) W a cs acT
 have uv:=run_storeCells_at P g o et cs 0 ⟨C⟩ W hg (by omega) h1
 have ed:=cD (w:=W) hi
 simp only[Nat.add_zero] at uv
 subst hk
 simp only[Builtin.copy_,Sem.run_bind,Sem.run_pure,Result.andThen_ok,run_underlying ht,Builtin.lenOf,ed,Builtin.firstCells,←hl,hld,uv]
 simp[run_underlying ht,Builtin.lenOf,ed,Builtin.firstCells,←hl,hld,uv]
theorem uN {t ty e:TypeId} {i:TypeInfo} (ht:P.underlying t=some (.slice e)) (hi:P.info? e=some i) {g n cap:Nat} {a:Addr} {m c:Nat} {C cs:List Value} {et:TypeId} (hg:jZ W g et C)
 (aav:n+m≤cap) (hl:cs.length=m*i.size) (acT:∀j v,cs[j]?=some v→W.cell? (a.add j)=some v) (ld:n*i.size+cs.length≤C.length) (h1:∀v∈cs,v.oneCell'=true):
 (Builtin.append_ #[t,t] ty #[.slice (some ⟨g,0,none⟩) n cap,.slice (some a) m c]).run P W=.ok (.slice (some ⟨g,0,none⟩) (n+m) cap) (W.setRow g ⟨C.take (n*i.size)++cs++C.drop (n*i.size+cs.length)⟩):=by
 have hld:=run_loadCells_list (P:=P) W a cs acT
 have uv:=run_storeCells_at P g (n*i.size) et cs 0 ⟨C⟩ W hg (by omega) h1
 have ed:=cD (w:=W) hi
 simp only[Nat.add_zero] at uv
 simp[Builtin.append_,run_underlying ht,Builtin.lenOf,ed,Builtin.firstCells,←hl,hld,aav,bw,uv]
theorem kx (z:Array Value) (n:Nat):(Builtin.zeroCells z n).toList.length=n*z.size:=by simp[Builtin.zeroCells]
theorem Bh {z:Array Value} (hz:∀v∈z,v.oneCell'=true) (n:Nat) (h0:0<z.size):∀v∈(Builtin.zeroCells z n).toList,v.oneCell'=true:=by
 intro v hv
 simp only[Builtin.zeroCells,Array.toList_map,List.mem_map] at hv
 obtain⟨j,_,rfl⟩:=hv
 have aY:j%z.size<z.size:=Nat.mod_lt _ h0
 simp_all
theorem IC {t ty e:TypeId} {i:TypeInfo} {z:Value} (ht:P.underlying t=some (.slice e)) (hi:P.info? e=some i) (hz:i.zero=some z) (Wv:∀v∈z.cells,v.oneCell'=true) (h0:0<z.cells.size) {g o n c:Nat} {C:List Value} {et:TypeId} (hg:jZ W g et C) (ld:o+n*z.cells.size≤C.length):
 ∃D:List Value,D.length=n*z.cells.size∧(Builtin.clear_ #[t] ty #[.slice (some ⟨g,o,none⟩) n c]).run P W=.ok (.tuple #[]) (W.setRow g ⟨C.take o++D++C.drop (o+D.length)⟩):=by
 have hzv:(zeroValue e).run P W=.ok z W:=by simp[zeroValue,typeInfo,hi,hz]
 cases n with
 |zero=>
  refine⟨[],by simp,?_⟩
  have:(⟨C.take o++[]++C.drop (o+([]:List Value).length)⟩:Array Value)=⟨C⟩:=by simp
  rw[this,setRow_self W g _ et (0,0) hg]
  simp[Builtin.clear_,run_underlying ht]
 |succ n=>
  refine⟨(Builtin.zeroCells z.cells (n+1)).toList,kx _ _,?_⟩
  have uv:=run_storeCells_at P g o et (Builtin.zeroCells z.cells (n+1)).toList 0 ⟨C⟩ W hg (by rw[kx];omega) (Bh Wv _ h0)
  simp only[Nat.add_zero] at uv
  simp[Builtin.clear_,run_underlying ht,hzv,uv]
theorem YY {t ty e:TypeId} (ht:P.underlying t=some (.slice e)) (a:Option Addr) (n c:Nat):(Builtin.cap_ #[t] ty #[.slice a n c]).run P W=.ok (goInt c) W:=by
 simp[Builtin.cap_,run_underlying ht]
theorem PG {tS tR e:TypeId} {i:TypeInfo} (ht:P.underlying tS=some (.slice e)) (hi:P.info? e=some i) {a b:Addr} {la ca lb cb:Nat} (bb:a.block≠b.block) {Ca Cb:Array Value} {ta tb:TypeId} {fa:Nat×Nat}
 (ha:W.heap[a.block]?=some (.cells Ca ta fa)) (hb:W.heap[b.block]?=some (.cells Cb tb (0,0))) (h0:Ca.size≠0) (h0':Cb.size≠0):
 (Extern.SlicesOverlaps.overlaps #[tS,tS] #[tR] #[.slice (some a) la ca,.slice (some b) lb cb]).run P W=.ok (.bool false) W:=by
 have vZ:(a.block !=b.block)=true:=by simp_all
 have atS:(a.block==b.block)=false:=by simp_all
 have WE:W.shape? a.block=some (ta,Ca.size):=by simp[World.shape?,ha]
 have PH:W.shape? b.block=some (tb,Cb.size):=by simp[World.shape?,hb]
 have hfb:W.frozen? b=false:=by simp[World.frozen?,hb]
 have hfe:W.frozen? {block:=b.block,off:=Cb.size}=false:=by simp[World.frozen?,hb]
 have hz:=cD (w:=W) hi
 change Sem.run P (α:=Value) (do
  let some t:=(#[tS,tS]:Array TypeId)[0]?|stuck "slices.overlaps: no parameter types"
  let .slice elem ←underlying t|stuck "slices.overlaps: slice type expected"
  let size ←sizeOf elem
  match(some a:Option Addr),(some b:Option Addr) with
  |some a,some b=>
   if la=0∨lb=0∨size=0 then pure (Value.bool false)
   else if a.block !=b.block&&(←frozen a)&&(←frozen b) then unsupported .addressObserved
   else do
    if a.block !=b.block then do
     noView a;noView b
     if ←mayBeOne a b then return Value.bool ((←choose (.extern "sameAddr.stringBytes" 2))==1)
    pure (Value.bool (a.block==b.block&&a.off<b.off+lb*size&&b.off<a.off+la*size))
  |_,_=>pure (Value.bool false)) W=_
 by_cases hc:la=0∨lb=0∨i.size=0
 ·simp[run_underlying ht,hz,hc]
 ·cases hka:Ca.size with
  |zero=>omega
  |succ ka=>
   cases hkb:Cb.size with
   |zero=>omega
   |succ kb=>
    rw[hka] at WE
    rw[hkb] at PH hfe
    cases GR:W.frozen? a<;>cases atT:W.frozen? {block:=a.block,off:=ka+1}<;>
     simp[run_underlying ht,hz,hc,vZ,atS,frozen,noView,viewAt,mayBeOne,stringish,shape,Sem.run,WE,PH,hfb,hfe,GR,atT]
end
def akV (P:Program) (t ti:TypeId) (sz:Nat) (ov rt:FuncId) (a0:Sl) (a1:Int) (a2:Sl) (W:World) (K:Sl×Unit→World→Prop):Prop:=
 cj a0.a a0.cap sz a1 ((a0.len:Nat):Int) fun(q1:Sl)=>af ((((a2.len:Nat):Int):Int)==0) (K (a0,()) W) (af ((a1:Int)==((a0.len:Nat):Int)) (bG P (.val (.one .sl)) (Builtin.append_ #[t,t] t #[(.slice a0.a a0.len a0.cap),(.slice a2.a a2.len a2.cap)]) W fun(r2:Sl) W=>K (r2,()) W) (bG P (.val (.one (.int .i64))) (Builtin.cap_ #[t] ti #[(.slice a0.a a0.len a0.cap)]) W fun(r3:Int) W=>af (decide (((IntKind.i64.wrap (((a0.len:Nat):Int)+((a2.len:Nat):Int))):Int)>r3)) (cj a0.a a0.cap sz 0 a1 fun(q4:Sl)=>bG P (.val (.one .sl)) (Builtin.append_ #[t,ti] t #[(.slice q4.a q4.len q4.cap),(.int .i64 (IntKind.i64.wrap ((IntKind.i64.wrap (((a0.len:Nat):Int)+((a2.len:Nat):Int)))- a1)))]) W fun(r5:Sl) W=>cj r5.a r5.cap sz a1 ((r5.len:Nat):Int) fun(q6:Sl)=>bG P (.val (.one (.int .i64))) (Builtin.copy_ #[t,t] ti #[(.slice q6.a q6.len q6.cap),(.slice a2.a a2.len a2.cap)]) W fun(r7:Int) W=>mP W fun W=>jh W fun S8=>cj r5.a r5.cap sz (IntKind.i64.wrap (a1+((a2.len:Nat):Int))) ((r5.len:Nat):Int) fun(q9:Sl)=>cj a0.a a0.cap sz a1 ((a0.len:Nat):Int) fun(AJ:Sl)=>bG P (.val (.one (.int .i64))) (Builtin.copy_ #[t,t] ti #[(.slice q9.a q9.len q9.cap),(.slice AJ.a AJ.len AJ.cap)]) W fun(r11:Int) W=>K (r5,()) W) (cj a0.a a0.cap sz 0 (IntKind.i64.wrap (((a0.len:Nat):Int)+((a2.len:Nat):Int))) fun(cY:Sl)=>cj cY.a cY.cap sz (IntKind.i64.wrap (a1+((a2.len:Nat):Int))) ((cY.len:Nat):Int) fun(AL:Sl)=>Fy P ov [(.slice a2.a a2.len a2.cap),(.slice AL.a AL.len AL.cap)] [.one .bool] W fun(Wh:Bool×Unit) W=>af (!Wh.1) (mP W fun W=>jh W fun ZE=>cj cY.a cY.cap sz (IntKind.i64.wrap (a1+((a2.len:Nat):Int))) ((cY.len:Nat):Int) fun(AM:Sl)=>cj cY.a cY.cap sz a1 ((cY.len:Nat):Int) fun(AN:Sl)=>bG P (.val (.one (.int .i64))) (Builtin.copy_ #[t,t] ti #[(.slice AM.a AM.len AM.cap),(.slice AN.a AN.len AN.cap)]) W fun(r18:Int) W=>cj cY.a cY.cap sz a1 ((cY.len:Nat):Int) fun(AO:Sl)=>bG P (.val (.one (.int .i64))) (Builtin.copy_ #[t,t] ti #[(.slice AO.a AO.len AO.cap),(.slice a2.a a2.len a2.cap)]) W fun(r20:Int) W=>K (cY,()) W) (cj cY.a cY.cap sz ((a0.len:Nat):Int) ((cY.len:Nat):Int) fun(AP:Sl)=>bG P (.val (.one (.int .i64))) (Builtin.copy_ #[t,t] ti #[(.slice AP.a AP.len AP.cap),(.slice a2.a a2.len a2.cap)]) W fun(r22:Int) W=>cj cY.a cY.cap sz a1 ((cY.len:Nat):Int) fun(AQ:Sl)=>fL P rt [(.slice AQ.a AQ.len AQ.cap),(.int .i64 ((a2.len:Nat):Int))] [] W fun(r24:Unit) W=>K (cY,()) W))))
def akW (P:Program) (t:TypeId) (sz:Nat) (a0:Sl) (a1:Int) (a2:Int) (W:World) (K:Sl×Unit→World→Prop):Prop:=
 bG P (.val (.one .sl)) (Instr.sliceAt t (.slice a0.a a0.len a0.cap) (some (.int .i64 a1)) (some (.int .i64 a2)) (some (.int .i64 ((a0.len:Nat):Int)))) W fun(r1:Sl) W=>af ((a1:Int)==a2) (K (a0,()) W) (mP W fun W=>jh W fun S2=>cj a0.a a0.cap sz 0 a1 fun(q3:Sl)=>cj a0.a a0.cap sz a2 ((a0.len:Nat):Int) fun(q4:Sl)=>bG P (.val (.one .sl)) (Builtin.append_ #[t,t] t #[(.slice q3.a q3.len q3.cap),(.slice q4.a q4.len q4.cap)]) W fun(r5:Sl) W=>cj r5.a r5.cap sz ((r5.len:Nat):Int) ((a0.len:Nat):Int) fun(q6:Sl)=>bG P (.ma []) (Builtin.clear_ #[t] 0 #[(.slice q6.a q6.len q6.cap)]) W fun(r7:Unit) W=>K (r5,()) W)
theorem tx {α:Type} {l:List α} {n j:Nat} {u:α} (h:(l.take n)[j]?=some u):l[j]?=some u:=by
 grind
theorem nh {α:Type} {A R:List α} {k:Nat} (h:A.length=k):(A++R).take k=A:=by simp_all
theorem oS {α:Type} {A R:List α} {k j:Nat} (h:A.length=k):(A++R).drop (k+j)=R.drop j:=by subst h;simp
theorem jZ.drew {W:World} {g:Nat} {e:TypeId} {C:List Value} (h:jZ W g e C):jZ W.drew g e C:=h
structure ER (P:Program) (t e ti:TypeId) (sz bytes:Nat) (i:TypeInfo) (z:Value):Prop where
 ht:P.underlying t=some (.slice e)
 hti:P.underlying ti=some (.int .i64)
 hi:P.info? e=some i
 hz:i.zero=some z
 ed:i.size=sz
 Wy:i.bytes=bytes
 Ce:z.cells.size=sz
 h0:0<sz
 Wv:∀v∈z.cells,v.oneCell'=true
def OvF (P:Program) (t:TypeId) (ov:FuncId):Prop:=∃tr:TypeId,∀(W:World) (args:Array Value),(callFunc ov args).run P W=((Extern.SlicesOverlaps.overlaps #[t,t] #[tr] args).run P W).andThen fun v w'=>.ok (.value v) w'
theorem gi {g o:Nat} {cap size:Nat} {l h:Int} {K:Sl→Prop} (h0:0≤l) (h1:l≤h) (h2:h≤cap) (bb:l.toNat≠cap) (hk:K ⟨some ⟨g,o+l.toNat*size,none⟩,h.toNat - l.toNat,cap - l.toNat⟩):cj (some ⟨g,o,none⟩) cap size l h K:=by
 refine⟨h0,h1,h2,?_⟩
 rw[if_neg (Ne.symm bb)]
 simpa[bw] using hk
theorem T_ {a:Option Addr} {cap size:Nat} {l h:Int} {K:Sl→Prop} (h0:0≤l) (h1:l≤h) (h2:h≤cap) (hk:∀r:Sl,r.len=h.toNat - l.toNat→K r):cj a cap size l h K:=⟨h0,h1,h2,hk _ rfl⟩
theorem aV.put {W W' gZ:World} {g:Nat} {S:List Nat} (h:aV S W W') (k:aV [g] W' gZ) (hg:g∈S∨W.heap.size≤g):aV S W gZ:=h.trans' k fun b hb=>by
 simp_all
section
variable {P:Program}
theorem D5 {t e ti:TypeId} {sz bytes:Nat} {inf:TypeInfo} {z:Value} (T:ER P t e ti sz bytes inf z) {ov rt:FuncId} (hov:OvF P t ov) {W:World} {s v:Sl} {xs ys:List Value} {i:Nat} (ho:bX W 0 e sz s xs) (hv:Rs W sz v ys) (RQ:v.a=none→v.len=0∧v.cap=0)
 (bb:v.len≠0→∀b∈aS v,b∉aS s) (hi:i≤s.len) (h1:∀u∈ys,u.oneCell'=true) (h1x:∀u∈xs,u.oneCell'=true) (kv:(s.len+v.len)*bytes≤140737488355328) (h63:s.len+v.len≤1000000000000) {K:Sl×Unit→World→Prop}
 (hk:∀r W',bX W' 0 e sz r (xs.take (i*sz)++ys++xs.drop (i*sz))→aV (aS s) W W'→(∀b∈aS r,b∈aS s∨xk W W' b)→r.len=s.len+v.len→K (r,()) W'):akV P t ti sz ov rt s (i:Int) v W K:=by
 obtain⟨tr,hov⟩:=hov
 have WG:=hv.len
 have hxl:=ho.len
 have hc:=ho.cap
 have hmx:=cW
 have i1:=T.ed
 have i2:=T.Wy
 subst i1 i2
 unfold akV
 refine T_ (by omega) (by omega) (by omega) fun _ _=>oK (fun hm=>?_) fun hm=>?_
 ·have Jb:v.len=0:=by omega
  rw[Jb,Nat.zero_mul] at WG
  have:=List.eq_nil_of_length_eq_zero WG
  subst this
  refine hk s W (by simp_all) (aV.refl _ _) (fun b hb=>.inl hb) (by omega)
 have hmp:v.len≠0:=by omega
 obtain⟨va,kC⟩:∃a,v.a=some a:=by
  cases h:v.a with
  |none=>simp_all
  |some a=>simp
 have EE:∀(W':World),(∀b∈aS v,W'.heap[b]?=W.heap[b]?)→∀j u,ys[j]?=some u→W'.cell? (va.add j)=some u:=fun W' hW j u hj=>by
  obtain⟨p,hp,QA⟩:=hv.at_ j u hj
  rw[kC] at hp
  injection hp with hp
  subst hp
  have:W'.heap[va.block]?=W.heap[va.block]?:=hW _ (by unfold aS;simp_all)
  unfold World.cell? at QA⊢
  rw[cO,this]
  rw[cO] at QA
  omega
 have Wz:va.block∈aS v:=by unfold aS;simp_all
 refine oK (fun mV=>?_) fun mV=>?_
 ·have acU:i=s.len:=by omega
  rw[kC]
  refine pI (K:=fun r2 W=>K (r2,()) W) T.ht T.hi T.hz rfl rfl T.Ce T.h0 ho ys WG (fun j u hj=>EE W (fun _ _=>rfl) j u hj) h1 kv (by omega) (Nat.zero_le _) fun r W' h2 h3 h4 h5 _=>hk r W' ?_ h3 h5 h4
  grind
 have aY:i<s.len:=by omega
 have BZ:s.len≠0:=by omega
 obtain⟨g,C,WE,hg,_,hcm,hCl,hCt⟩:=Mc ho BZ
 have PH:aS s=[g]:=by unfold aS;grind
 have hgv:va.block≠g:=fun e=>bb hmp _ Wz (by simp_all)
 refine⟨(s.cap:Int),W,YY T.ht _ _ _,?_⟩
 rw[jd (by omega) (by omega)]
 have hxd:(xs.drop (i*inf.size)).length=(s.len - i)*inf.size:=by rw[List.length_drop,hxl,Nat.sub_mul]
 have iH:(xs.take (i*inf.size)).length=i*inf.size:=by
  simp_all
 have hsx:∀(W':World),(W'.heap[g]?=W.heap[g]?)→∀j u,(xs.drop (i*inf.size))[j]?=some u→W'.cell? ((Addr.mk g (i*inf.size) none).add j)=some u:=fun W' hW j u hj=>by
  rw[List.getElem?_drop] at hj
  rw[bw]
  have h2:=hg.cell (i*inf.size+j)
  rw[←hCt] at hj
  have h3:=tx hj
  rw[h3] at h2
  unfold World.cell? at h2⊢
  simp_all
 refine fW (fun ayw=>?_) fun aav=>?_
 ·
  refine⟨by omega,by omega,by omega,?_⟩
  have Rw:((0:Int).toNat)=0:=rfl
  have amK:¬s.cap=(0:Int).toNat:=by omega
  rw[if_neg amK,WE]
  have e0:(Option.map (fun x=>x.add ((0:Int).toNat*inf.size)) (some (Addr.mk g 0 none)))=some ⟨g,0,none⟩:=by simp[bw]
  rw[e0,jd (by omega) (by omega)]
  have eI:((i:Int).toNat - (0:Int).toNat)=i:=by simp
  have eC:s.cap - (0:Int).toNat=s.cap:=by simp
  rw[eI,eC]
  have eK:((s.len:Nat):Int)+((v.len:Nat):Int)- (i:Int)=((s.len+v.len - i:Nat):Int):=by omega
  rw[eK]
  have hold:(Builtin.firstCells inf.size i (.slice (some ⟨g,0,none⟩) i s.cap)).run P W.drew=.ok (xs.take (i*inf.size)).toArray W.drew:=by
   have:=run_loadCells_list (P:=P) W.drew ⟨g,0,none⟩ (xs.take (i*inf.size)) (fun j u hj=>by
    rw[bw,Nat.zero_add]
    have h2:=hg.cell j
    rw[←hCt,List.take_take] at hj
    have h3:=tx hj
    simp_all)
   rw[iH] at this
   simpa[Builtin.firstCells] using this
  have d':=Lib.run_append_grow_zeros (P:=P) W t ti t e inf z .i64 .i64 T.ht T.hti T.hi T.hz (some ⟨g,0,none⟩) i s.cap (xs.take (i*inf.size)) hold (s.len+v.len - i) (by omega) T.h0 (by omega) (by omega)
   (by have:(s.len+v.len - i)*inf.bytes≤(s.len+v.len)*inf.bytes:=Nat.mul_le_mul_right _ (by omega);omega)
   (growslice_fits (by omega) (by grind))
  have eN:i+(s.len+v.len - i)=s.len+v.len:=by omega
  rw[eN] at d'
  obtain⟨hcg,alc⟩:s.len+v.len≤grownCap W (s.len+v.len) s.cap e∧grownCap W (s.len+v.len) s.cap e≤maxLen:=⟨grownCap_ge W _ _ e,grownCap_le_maxLen W _ _ e (by omega)⟩
  generalize grownCap W (s.len+v.len) s.cap e=nc at d' hcg alc
  have hA:((i+v.len)*inf.size)=i*inf.size+v.len*inf.size:=Nat.add_mul _ _ _
  have hN:((s.len+v.len)*inf.size)=i*inf.size+v.len*inf.size+(s.len - i)*inf.size:=by grind
  have hle:(s.len+v.len)*inf.size≤nc*inf.size:=Nat.mul_le_mul_right _ hcg
  generalize hD:(Builtin.zeroCells z.cells (s.len+v.len - i)).toList++(Builtin.zeroCells z.cells (nc - (s.len+v.len))).toList=D
  have hDl:(xs.take (i*inf.size)++D).length=nc*inf.size:=by
   rw[←hD,List.length_append,List.length_append,kx,kx,iH,T.Ce,←Nat.add_mul,←Nat.add_mul]
   grind
  have mj:jZ (W.drew.alloc (.cells ((xs.take (i*inf.size)).toArray++Builtin.zeroCells z.cells (s.len+v.len - i)++Builtin.zeroCells z.cells (nc - (s.len+v.len))) e)) W.heap.size e (xs.take (i*inf.size)++D):=by
   have:=heap_alloc_new W.drew (.cells ((xs.take (i*inf.size)).toArray++Builtin.zeroCells z.cells (s.len+v.len - i)++Builtin.zeroCells z.cells (nc - (s.len+v.len))) e)
   unfold jZ
   simp_all
  refine⟨⟨some ⟨W.heap.size,0,none⟩,s.len+v.len,nc⟩,_,d',?_⟩
  have kA:aV [] W (W.drew.alloc (.cells ((xs.take (i*inf.size)).toArray++Builtin.zeroCells z.cells (s.len+v.len - i)++Builtin.zeroCells z.cells (nc - (s.len+v.len))) e)):=(oB W []).trans (wq W.drew _ [])
  generalize (W.drew.alloc (.cells ((xs.take (i*inf.size)).toArray++Builtin.zeroCells z.cells (s.len+v.len - i)++Builtin.zeroCells z.cells (nc - (s.len+v.len))) e))=W1 at mj kA
  have atU:∀b∈aS v,b<W.heap.size:=fun b hb=>by
   unfold aS at hb;rw[kC] at hb
   simp only[List.mem_singleton] at hb
   subst hb
   have h0:0<ys.length:=by rw[WG];exact Nat.mul_pos (by omega) T.h0
   have:=EE W (fun _ _=>rfl) 0 _ (List.getElem?_eq_getElem h0)
   have:=xe this
   rwa [cO] at this
  have atV:g<W.heap.size:=hg.lt
  have Vx:v.len=Nat.min v.len (s.len+v.len - i):=by grind
  try dsimp only
  refine gi (by omega) (by omega) (by omega) (by omega) ?_
  have eq6:(((s.len+v.len:Nat):Int).toNat - ((i:Int)).toNat)=s.len+v.len - i:=by rfl
  have eo6:0+((i:Int)).toNat*inf.size=i*inf.size:=by simp
  rw[eq6,eo6,kC]
  refine⟨(v.len:Int),_,oA (P:=P) T.ht T.hi mj Vx WG (EE W1 fun b hb=>kA.block b (atU b hb) (by simp)) (by omega) h1,?_⟩
  have mK:=(j3 mj ((xs.take (i*inf.size)++D).take (i*inf.size)++ys++(xs.take (i*inf.size)++D).drop (i*inf.size+ys.length))).drew
  have k2:=gW W1 W.heap.size ⟨((xs.take (i*inf.size)++D).take (i*inf.size)++ys++(xs.take (i*inf.size)++D).drop (i*inf.size+ys.length))⟩
  rw[nh iH,oS iH] at mK
  rw[nh iH,oS iH] at k2
  rw[nh iH,oS iH]
  have aDU:(xs.take (i*inf.size)++ys++D.drop ys.length).length=nc*inf.size:=by
   grind
  have k3:aV [] W (W1.setRow W.heap.size ⟨xs.take (i*inf.size)++ys++D.drop ys.length⟩).drew:=(kA.put k2 (.inr (Nat.le_refl _))).trans (oB _ [])
  unfold mP jh
  refine⟨fun w=>w=(W1.setRow W.heap.size ⟨xs.take (i*inf.size)++ys++D.drop ys.length⟩).drew,rfl,?_⟩
  generalize (W1.setRow W.heap.size ⟨xs.take (i*inf.size)++ys++D.drop ys.length⟩).drew=W2 at mK k3
  rw[jd (by omega) (by omega)]
  try dsimp only
  refine gi (by omega) (by omega) (by omega) (by omega) ?_
  try dsimp only
  refine gi (by omega) (by omega) (by omega) (by omega) ?_
  have e1:0+((i:Int)+(v.len:Int)).toNat*inf.size=(i+v.len)*inf.size:=by grind
  have e2:(((s.len+v.len:Nat):Int).toNat - ((i:Int)+(v.len:Int)).toNat)=s.len - i:=by omega
  have e3:(((s.len:Nat):Int).toNat - ((i:Int)).toNat)=s.len - i:=by rfl
  rw[e1,e2,e3,eo6]
  have hAy:(xs.take (i*inf.size)++ys).length=(i+v.len)*inf.size:=by grind
  refine⟨((s.len - i:Nat):Int),_,oA (P:=P) T.ht T.hi mK (by simp) hxd (hsx W2 (k3.block g atV (by simp))) (by omega) (fun u hu=>h1x u (List.mem_of_mem_drop hu)),?_⟩
  rw[nh hAy]
  refine hk _ _ ?_ ((k3.put (gW W2 W.heap.size _) (.inr (Nat.le_refl _))).nil) (fun b hb=>.inr ?_) rfl
  ·have:=D4 (size:=inf.size) (n:=s.len+v.len) (cap:=nc) (j3 mK (xs.take (i*inf.size)++ys++xs.drop (i*inf.size)++(xs.take (i*inf.size)++ys++D.drop ys.length).drop ((i+v.len)*inf.size+(xs.drop (i*inf.size)).length))) hcg alc (by
    grind)
   grind
  ·simp only[aS,List.mem_singleton] at hb
   subst hb
   exact⟨Nat.le_refl _,by rw[setRow_size];exact mK.lt⟩
 ·
  have RR:s.len+v.len≤s.cap:=by omega
  have hA:((i+v.len)*inf.size)=i*inf.size+v.len*inf.size:=Nat.add_mul _ _ _
  have hN:((s.len+v.len)*inf.size)=i*inf.size+v.len*inf.size+(s.len - i)*inf.size:=by grind
  have hle:(s.len+v.len)*inf.size≤s.cap*inf.size:=Nat.mul_le_mul_right _ RR
  rw[WE,jd (by omega) (by omega)]
  try dsimp only
  refine gi (by omega) (by omega) (by omega) (by omega) ?_
  have c1:0+(0:Int).toNat*inf.size=0:=by simp
  have c2:((s.len:Int)+(v.len:Int)).toNat - (0:Int).toNat=s.len+v.len:=by rfl
  have c3:s.cap - (0:Int).toNat=s.cap:=by simp
  rw[c1,c2,c3]
  try dsimp only
  refine gi (by omega) (by omega) (by omega) (by omega) ?_
  have e1:0+((i:Int)+(v.len:Int)).toNat*inf.size=(i+v.len)*inf.size:=by grind
  have e2:(((s.len+v.len:Nat):Int).toNat - ((i:Int)+(v.len:Int)).toNat)=s.len - i:=by omega
  have eo6:0+((i:Int)).toNat*inf.size=i*inf.size:=by simp
  have eq6:(((s.len+v.len:Nat):Int).toNat - ((i:Int)).toNat)=s.len+v.len - i:=by rfl
  rw[e1,e2,kC]
  have agJ:∃Ca ta fa,W.heap[va.block]?=some (.cells Ca ta fa)∧Ca.size≠0:=by
   have h0:0<ys.length:=by rw[WG];exact Nat.mul_pos (by omega) T.h0
   have:=EE W (fun _ _=>rfl) 0 _ (List.getElem?_eq_getElem h0)
   unfold World.cell? at this
   rw[cO] at this
   grind
  obtain⟨Ca,ta,fa,hca,atW⟩:=agJ
  have hC0:(⟨C⟩:Array Value).size≠0:=by
   show C.length≠0
   rw[hCl]
   exact Nat.mul_ne_zero (by omega) (by have:=T.h0;omega)
  refine⟨(false,()),W,?_,?_⟩
  ·rw[hov,PG (P:=P) T.ht T.hi (a:=va) (b:=⟨g,(i+v.len)*inf.size,none⟩) hgv hca hg atW hC0]
   rfl
  refine bN (fun _=>?_) fun h=>by grind
  unfold mP jh
  refine⟨fun w=>w=W.drew,rfl,?_⟩
  try dsimp only
  refine gi (by omega) (by omega) (by omega) (by omega) ?_
  try dsimp only
  refine gi (by omega) (by omega) (by omega) (by omega) ?_
  rw[e1,e2,eo6,eq6]
  refine⟨((s.len - i:Nat):Int),_,oA (P:=P) T.ht T.hi hg.drew (by grind) hxd (hsx W.drew rfl) (by omega) (fun u hu=>h1x u (List.mem_of_mem_drop hu)),?_⟩
  have mK:=j3 hg.drew (C.take ((i+v.len)*inf.size)++xs.drop (i*inf.size)++C.drop ((i+v.len)*inf.size+(xs.drop (i*inf.size)).length))
  have k2:aV [g] W (W.drew.setRow g ⟨C.take ((i+v.len)*inf.size)++xs.drop (i*inf.size)++C.drop ((i+v.len)*inf.size+(xs.drop (i*inf.size)).length)⟩):=(oB W [g]).trans (gW W.drew g _)
  generalize (W.drew.setRow g ⟨C.take ((i+v.len)*inf.size)++xs.drop (i*inf.size)++C.drop ((i+v.len)*inf.size+(xs.drop (i*inf.size)).length)⟩)=W2 at mK k2
  have aDV:(C.take ((i+v.len)*inf.size)).length=(i+v.len)*inf.size:=by grind
  try dsimp only
  refine gi (by omega) (by omega) (by omega) (by omega) ?_
  rw[eo6,eq6]
  refine⟨(v.len:Int),_,oA (P:=P) T.ht T.hi mK (by grind) WG (EE W2 fun b hb=>k2.block b ?_ ?_) (by simp_all) h1,?_⟩
  ·unfold aS at hb;grind
  ·simp_all
  have t1:(C.take ((i+v.len)*inf.size)++xs.drop (i*inf.size)++C.drop ((i+v.len)*inf.size+(xs.drop (i*inf.size)).length)).take (i*inf.size)=xs.take (i*inf.size):=by
   grind
  have t2:(C.take ((i+v.len)*inf.size)++xs.drop (i*inf.size)++C.drop ((i+v.len)*inf.size+(xs.drop (i*inf.size)).length)).drop (i*inf.size+ys.length)=xs.drop (i*inf.size)++C.drop ((i+v.len)*inf.size+(xs.drop (i*inf.size)).length):=by
   simp_all
  rw[t1,t2]
  refine hk _ _ ?_ ?_ (fun b hb=>.inl ?_) rfl
  ·have:=D4 (size:=inf.size) (n:=s.len+v.len) (cap:=s.cap) (j3 mK (xs.take (i*inf.size)++ys++(xs.drop (i*inf.size)++C.drop ((i+v.len)*inf.size+(xs.drop (i*inf.size)).length)))) RR hcm (by
    grind)
   rw[←List.append_assoc] at this
   rwa [nh (by grind),List.append_assoc (xs.take (i*inf.size)++ys)] at this
  ·rw[PH];exact k2.trans (gW W2 g _)
  ·rw[PH];simpa[aS] using hb
theorem D6 {t e ti:TypeId} {sz bytes:Nat} {inf:TypeInfo} {z:Value} (T:ER P t e ti sz bytes inf z) {W:World} {s:Sl} {xs:List Value} {i j:Nat} (ho:bX W 0 e sz s xs) (GO:i≤j) (hj:j≤s.len) (h1x:∀u∈xs,u.oneCell'=true) (h63:s.len≤1000000000000) {K:Sl×Unit→World→Prop}
 (hk:∀r W',bX W' 0 e sz r (xs.take (i*sz)++xs.drop (j*sz))→aV (aS s) W W'→(∀b∈aS r,b∈aS s)→r.len+(j - i)=s.len→K (r,()) W'):akW P t sz s (i:Int) (j:Int) W K:=by
 have hxl:=ho.len
 have hc:=ho.cap
 have hmx:=cW
 have i1:=T.ed
 have i2:=T.Wy
 subst i1 i2
 have he:P.elem t=e:=by simp[Program.elem,T.ht]
 have vG:P.underlying t=some (.slice (P.elem t)):=by rw[he];exact T.ht
 unfold akW
 refine⟨⟨if s.len=i then s.a else s.a.map (·.add (i*inf.size)),j - i,s.len - i⟩,W,?_,?_⟩
 ·rw[run_sliceAt_slice W t _ _ _ _ vG,run_slice_lhm W t s.a s.len s.cap vG .i64 .i64 .i64 i j s.len (by omega) (by omega) (by omega) (by omega),he,cD T.hi]
  rfl
 refine oK (fun heq=>?_) fun bb=>?_
 ·have:i=j:=by omega
  subst this
  exact hk s W (by simp_all) (aV.refl _ _) (fun b hb=>hb) (by omega)
 have aY:i<j:=by omega
 have BZ:s.len≠0:=by omega
 obtain⟨g,C,WE,hg,_,hcm,hCl,hCt⟩:=Mc ho BZ
 have PH:aS s=[g]:=by unfold aS;grind
 have hxd:(xs.drop (j*inf.size)).length=(s.len - j)*inf.size:=by rw[List.length_drop,hxl,Nat.sub_mul]
 have hiN:i*inf.size≤s.len*inf.size:=Nat.mul_le_mul_right _ (by omega)
 have hjN:j*inf.size≤s.len*inf.size:=Nat.mul_le_mul_right _ hj
 have hcN:s.len*inf.size≤s.cap*inf.size:=Nat.mul_le_mul_right _ hc
 have aDW:i*inf.size≤j*inf.size:=Nat.mul_le_mul_right _ GO
 have hdN:(s.len - j)*inf.size=s.len*inf.size - j*inf.size:=Nat.sub_mul _ _ _
 have hrN:(i+(s.len - j))*inf.size=i*inf.size+(s.len - j)*inf.size:=Nat.add_mul _ _ _
 have iH:(xs.take (i*inf.size)).length=i*inf.size:=by
  simp_all
 unfold mP jh
 refine⟨fun w=>w=W.drew,rfl,?_⟩
 rw[WE]
 refine gi (by omega) (by omega) (by omega) (by omega) ?_
 have c1:0+(0:Int).toNat*inf.size=0:=by simp
 have c2:((i:Int)).toNat - (0:Int).toNat=i:=by simp
 have c3:s.cap - (0:Int).toNat=s.cap:=by simp
 rw[c1,c2,c3]
 refine⟨by omega,by omega,by omega,?_⟩
 have e1:((s.len:Nat):Int).toNat - ((j:Int)).toNat=s.len - j:=by rfl
 have ha:∃o,(if s.cap=((j:Int)).toNat then some (Addr.mk g 0 none) else(some (Addr.mk g 0 none)).map (·.add (((j:Int)).toNat*inf.size)))=some ⟨g,o,none⟩∧(s.len - j≠0→o=j*inf.size):=by
  split
  ·simp_all
  ·exact⟨j*inf.size,by simp[bw],fun _=>rfl⟩
 obtain⟨o,ha,nG⟩:=ha
 rw[ha,e1]
 have hCi:C.take (i*inf.size)=xs.take (i*inf.size):=by
  grind
 have ale:=uN (P:=P) (ty:=t) (c:=s.cap - ((j:Int)).toNat) (n:=i) (cap:=s.cap) (a:=⟨g,o,none⟩) (m:=s.len - j) T.ht T.hi hg.drew (by omega) hxd (fun q u hq=>by
  have hlen:=(List.getElem?_eq_some_iff.1 hq).1
  rw[hxd] at hlen
  have Vz:s.len - j≠0:=fun h=>by simp_all
  rw[nG Vz,bw]
  rw[List.getElem?_drop] at hq
  rw[hg.drew.cell,←hCt] at*
  grind) (by omega) (fun u hu=>h1x u (List.mem_of_mem_drop hu))
 rw[hCi] at ale
 refine⟨⟨some ⟨g,0,none⟩,i+(s.len - j),s.cap⟩,_,ale,?_⟩
 have mK:=j3 hg.drew (xs.take (i*inf.size)++xs.drop (j*inf.size)++C.drop (i*inf.size+(xs.drop (j*inf.size)).length))
 have k2:aV [g] W (W.drew.setRow g ⟨xs.take (i*inf.size)++xs.drop (j*inf.size)++C.drop (i*inf.size+(xs.drop (j*inf.size)).length)⟩):=(oB W [g]).trans (gW W.drew g _)
 generalize (W.drew.setRow g ⟨xs.take (i*inf.size)++xs.drop (j*inf.size)++C.drop (i*inf.size+(xs.drop (j*inf.size)).length)⟩)=W2 at mK k2
 have GY:(xs.take (i*inf.size)++xs.drop (j*inf.size)).length=(i+(s.len - j))*inf.size:=by simp_all
 have hlC:(xs.take (i*inf.size)++xs.drop (j*inf.size)++C.drop (i*inf.size+(xs.drop (j*inf.size)).length)).length=s.cap*inf.size:=by
  grind
 dsimp only
 refine gi (by omega) (by omega) (by omega) (by omega) ?_
 have e2:0+((i+(s.len - j):Nat):Int).toNat*inf.size=(i+(s.len - j))*inf.size:=by grind
 have e3:((s.len:Nat):Int).toNat - ((i+(s.len - j):Nat):Int).toNat=j - i:=by omega
 rw[e2,e3]
 have ld:(i+(s.len - j))*inf.size+(j - i)*inf.size=s.len*inf.size:=by rw[←Nat.add_mul];grind
 obtain⟨D,hD,atX⟩:=IC (P:=P) (ty:=0) (n:=j - i) (c:=s.cap - ((i+(s.len - j):Nat):Int).toNat) T.ht T.hi T.hz T.Wv (by rw[T.Ce];exact T.h0) mK (o:=(i+(s.len - j))*inf.size) (by rw[hlC,T.Ce];omega)
 rw[T.Ce] at hD
 refine⟨(),_,atX,?_⟩
 rw[nh GY]
 refine hk _ _ ?_ (by rw[PH];exact k2.trans (gW W2 g _)) (fun b hb=>by rw[PH];simpa[aS] using hb) (by grind)
 have:=D4 (size:=inf.size) (n:=i+(s.len - j)) (cap:=s.cap) (j3 mK (xs.take (i*inf.size)++xs.drop (j*inf.size)++D++(xs.take (i*inf.size)++xs.drop (j*inf.size)++C.drop (i*inf.size+(xs.drop (j*inf.size)).length)).drop ((i+(s.len - j))*inf.size+D.length))) (by omega) hcm (by
  rw[List.length_append,List.length_append,GY,List.length_drop,hlC,hD];omega)
 grind
end
end Go.Gp
namespace Go.Ga
open Go Go.Gp
theorem cN {V:Type} {x:V} {H:HP} {body:V→HP→(V→HP→Prop)→Prop} (n:Nat) (st:Nat→V) (P:Nat→Prop) (h0:x=st 0) (p0:P 0)
 (step:∀i C,i≤n→P i→(i<n→P (i+1)→C (st (i+1)) H)→body (st i) H C):a9 x H body:=by
 let S:V→Nat→Prop:=fun v k=>∃i,i≤n∧P i∧v=st i∧n - i=k
 have hex:∀v,∃k,(∃k,S v k)→S v k∧∀j,S v j→k≤j:=fun v=>by
  by_cases h:∃k,S v k
  ·obtain⟨k,h1,h2⟩:=least h;exact⟨k,fun _=>⟨h1,h2⟩⟩
  simp_all
 refine⟨fun v H'=>(∃k,S v k)∧H'=H,fun v _=>Classical.choose (hex v),⟨⟨_,0,Nat.zero_le _,p0,h0,rfl⟩,rfl⟩,?_⟩
 rintro v H' ⟨hv,rfl⟩
 obtain⟨⟨i,hi,hp,rfl,hk⟩,Vx⟩:=Classical.choose_spec (hex v) hv
 refine step i _ hi hp fun aY ji=>⟨⟨⟨_,i+1,aY,ji,rfl,rfl⟩,rfl⟩,?_⟩
 have:=(Classical.choose_spec (hex (st (i+1))) ⟨_,i+1,aY,ji,rfl,rfl⟩).2 (n - (i+1)) ⟨i+1,aY,ji,rfl,rfl⟩
 grind
theorem gY {V:Type} {x:V} {H:HP} {body:V→HP→(V→HP→Prop)→Prop} (n:Nat) (P:Nat→V→HP→Prop) (h0:P 0 x H)
 (step:∀i v H C,i≤n→P i v H→(i<n→∀v' H',P (i+1) v' H'→C v' H')→body v H C):a9 x H body:=by
 let S:V×HP→Nat→Prop:=fun v k=>∃i,i≤n∧P i v.1 v.2∧n - i=k
 have hex:∀v,∃k,(∃k,S v k)→S v k∧∀j,S v j→k≤j:=fun v=>by
  by_cases h:∃k,S v k
  ·obtain⟨k,h1,h2⟩:=least h;exact⟨k,fun _=>⟨h1,h2⟩⟩
  simp_all
 refine⟨fun v H'=>∃k,S (v,H') k,fun v H'=>Classical.choose (hex (v,H')),⟨_,0,Nat.zero_le _,h0,rfl⟩,?_⟩
 rintro v H' hv
 obtain⟨⟨i,hi,hp,hk⟩,Vx⟩:=Classical.choose_spec (hex (v,H')) hv
 refine step i v H' _ hi hp fun aY v' tO ji=>⟨⟨_,i+1,aY,ji,rfl⟩,?_⟩
 have:=(Classical.choose_spec (hex (v',tO)) ⟨_,i+1,aY,ji,rfl⟩).2 (n - (i+1)) ⟨i+1,aY,ji,rfl⟩
 grind
theorem w1 {i:Nat} (h:i<9223372036854775807):IntKind.i64.wrap ((i:Int)+1)=((i+1:Nat):Int):=by
 rw[jd (by omega) (by omega)];rfl
theorem wI {x:Int} (h1: -9223372036854775808≤x) (h2:x≤9223372036854775807):IntKind.i64.wrap x=x:=jd h1 h2
theorem cd {A B:Prop} {b:Bool} (hb:b=true) (h:A):af b A B:=by subst hb;exact h
theorem bP {A B:Prop} {b:Bool} (hb:b=false) (h:B):af b A B:=by subst hb;exact h
theorem dR {i:Nat} {n:Nat} {A B:Prop} (h1:i<n→A) (h2:n≤i→B):af (decide ((i:Int)<(n:Int))) A B:=fW (fun h=>h1 (by omega)) fun h=>h2 (by omega)
theorem CL {i n:Nat} {A B:Prop} (h1:n<i→A) (h2:i≤n→B):af (decide ((i:Int)>(n:Int))) A B:=fW (fun h=>h1 (by omega)) fun h=>h2 (by omega)
theorem alf {i n:Nat} {A B:Prop} (h1:i≤n→A) (h2:n<i→B):af (decide ((i:Int)≤(n:Int))) A B:=fW (fun h=>h1 (by omega)) fun h=>h2 (by omega)
theorem dk {α:Type} {xs:List α} {i:Nat} {K:α→Prop} (hi:i<xs.length) (h:K xs[i]):bT xs (i:Int) K:=mJ (List.getElem?_eq_getElem hi) h
theorem b_ {α:Type} {xs:List α} {z:Int} {i:Nat} {x:α} {K:α→Prop} (hz:z=(i:Int)) (hi:xs[i]?=some x) (h:K x):bT xs z K:=by subst hz;exact mJ hi h
theorem Md (x y:List UInt8):(ByteArray.toList (kL x)==ByteArray.toList (kL y))=decide (x=y):=RS x y
theorem gj {n:Nat} {l h:Int} {a b:Nat} {K:Nat→Nat→Prop} (hl:l=a) (hh:h=b) (h1:a≤b) (h2:b≤n) (hk:K a (b - a)):fe n l h K:=by subst hl hh;exact agF h1 h2 hk
theorem sub_zero {α:Type} (xs:List α) (n:Nat):sub xs 0 n=xs.take n:=by rfl
theorem fT {α:Type} (xs:List α) (a:Nat):sub xs a (xs.length - a)=xs.drop a:=by
 unfold sub;rw[List.take_of_length_le (by simp)]
theorem YZ {n:Nat} {K:UInt8→Prop} (h:n<256) (hk:K (UInt8.ofNat n)):Qy (n:Int) K:=⟨by omega,by omega,by simp_all⟩
theorem CM {I:Nat→Prop} {W:World} {s:Sl} {xs:List UInt8} (h:dD I W 1 (bz I W .byte) s xs):Bs W s xs:=
 ⟨h.len,by have:=h.pE;rw[cW] at this;have:=h.len;omega,fun i b hb=>by
  obtain⟨p,cs,h1,_,h2,h3,h4⟩:=h.el i b hb
  have h4:cs=[.int .u8 b.toNat]:=h4
  subst h4
  rw[Nat.mul_one] at h3
  refine⟨p,h1,?_⟩
  have:=h3.1
  rwa [show(p.add i).add 0=p.add i from by rfl] at this⟩
theorem sW {w:Mk} {W:World} {j:Nat} {e:AK} {r:List (Bool×AK)} {vs:List Value} {xs:List e.T} {y:HT r} (h:gk w W j ((false,.row e)::r) vs (xs,y)):∃(s:Sl) (us:List Value),vs=s.val::us∧dD (aG w) W e.sz (bz (aG w) W e) s xs∧gk w W (j+1) r us y:=by
 obtain⟨v,us,rfl,h1,cs,h2,h3⟩:=h
 have h3:cs=[v]:=h3
 subst h3
 obtain⟨s,h4,h5⟩:=h2
 injection h4 with h4
 subst h4
 exact⟨s,us,rfl,h5,h1⟩
theorem D7 {w:Mk} {W:World} {j:Nat} {k:K1} {r:List (Bool×AK)} {vs:List Value} {x:k.T} {y:HT r} (h:gk w W j ((false,.one k)::r) vs (x,y)):∃us:List Value,vs=k.enc x::us∧(k.enc x).oneCell'=true∧gk w W (j+1) r us y:=by
 obtain⟨v,us,rfl,h1,cs,h2,h3⟩:=h
 have h3:cs=[v]:=h3
 subst h3
 obtain⟨h4,h5⟩:=h2
 injection h4 with h4
 subst h4
 exact⟨us,rfl,h5,h1⟩
theorem Me {w:Mk} {W:World} {j:Nat} {e:AK} {t:Nat} {r:List (Bool×AK)} {vs:List Value} {xs:List e.T} {y:HT r} (h:gk w W j ((false,.own e t)::r) vs (xs,y)):∃(s:Sl) (us:List Value),vs=s.val::us∧fM (aG w) (fun b=>w b=some (.arg j)) W e t s xs∧gk w W (j+1) r us y:=by
 obtain⟨v,us,rfl,h1,cs,h2,h3⟩:=h
 have h3:cs=[v]:=h3
 subst h3
 obtain⟨s,h4,h5⟩:=h2
 injection h4 with h4
 subst h4
 exact⟨s,us,rfl,h5,h1⟩
theorem Y0 {w:Mk} {W:World} {j:Nat} {k:K1} {r:List (Bool×AK)} {us:List Value} {x:k.T} {y:HT r} (hx:(k.enc x).oneCell'=true) (h:kW w W (j+1) r us y):kW w W j ((false,.one k)::r) (k.enc x::us) (x,y):=
 ⟨_,_,rfl,h,[k.enc x],⟨rfl,hx⟩,rfl⟩
theorem Mf {P:Program} {f:FuncId} {k:K1} {a b:List UInt8} {r:k.T} (hr:(k.enc r).oneCell'=true) (h:∀(W:World) (x y:Sl),Bs W x a→Bs W y b→fL P f [x.val,y.val] [.one k] W fun z W'=>z=(r,())∧W'=W):
 bB P f [(false,.row .byte),(false,.row .byte)] (a,b,()) [(false,.one k)] (r,()):=fun H K hk w W vs hp ha=>by
 obtain⟨s1,us,rfl,h1,ha⟩:=sW ha
 obtain⟨s2,us,rfl,h2,ha⟩:=sW ha
 have ha:us=[]:=ha
 subst ha
 refine(h W s1 s2 (CM h1) (CM h2)).mono fun e W' ⟨z,he,hz,hW⟩=>?_
 subst hz hW
 exact⟨[k.enc r],(r,()),H,w,he,hk,⟨hp.wf,hp.ob,pW.refl _ _⟩,Y0 hr rfl⟩
theorem sH {w:Mk} {W W':World} {S:List Nat} (hwf:∀b,W.heap.size≤b→w b=none) (hk:aV S W W') {τ:Tag} (hS:∀b∈S,w b≠some τ):∀b,w b=some τ→W'.heap[b]?=W.heap[b]?:=fun b hb=>by
 have aY:b<W.heap.size:=Nat.lt_of_not_le fun h=>by simp_all
 exact hk.block b aY fun hm=>hS b hm hb
theorem zP {P:Program} {f:FuncId} {e:AK} {t:TypeId} {xs:List e.T} (g:e.bd=true) (h0:e.sz≠0)
 (h:∀(W:World) (s:Sl) (cs:List Value),Rs W e.sz s cs→s.len=xs.length→(s.a=none→s.len=0∧s.cap=0)→(∀u∈cs,u.oneCell'=true)→fL P f [s.val] [.one .sl] W fun z W'=>bX W' 0 t e.sz z.1 cs∧z.1.len=s.len∧aV [] W W'∧∀b∈aS z.1,xk W W' b):
 bB P f [(false,.row e)] (xs,()) [(false,.row e)] (xs,()):=fun H K hk w W vs hp ha=>by
 obtain⟨s,us,rfl,h1,ha⟩:=sW ha
 have ha:us=[]:=ha
 subst ha
 obtain⟨css,hl,hd,bF,CN⟩:=qH h1
 refine(h W s css.flatten CN h1.len h1.nil (m9 hl hd)).mono fun e' W' ⟨z,he,ho,uY,mW,CO⟩=>?_
 have r8:mb (aG w) (aG w) W W':=fun b hb aY=>⟨hb,bl.of (mW.block b aY (by simp))⟩
 have oP:∀τ,∀b,w b=some τ→W'.heap[b]?=W.heap[b]?:=fun τ=>sH hp.wf mW (by simp)
 have own:fM (aG w) (fun b=>b∈aS z.1) W' e t z.1 xs:=⟨⟨css,hl,fun i c x h2 h3=>(hd i c x h2 h3).aG r8 g,ho⟩,by rw[uY,h1.len],fun b=>Iff.rfl⟩
 refine⟨[z.1.val],(xs,()),H,w,?_,hk,⟨fun b hb=>hp.wf b (Nat.le_trans mW.size hb),fun n=>(hp.ob n).bk r8 (fun b=>⟨Iff.rfl,oP _ b⟩) fun j b=>⟨Iff.rfl,oP _ b⟩,⟨mW.os,mW.tape,mW.output,mW.size,fun b hb h=>⟨h,mW.block b hb (by simp)⟩,fun b h=>⟨h,oP _ b h⟩,fun b h=>h⟩⟩,?_⟩
 ·rw[he]
  rfl
 ·refine⟨z.1.val,[],rfl,rfl,[z.1.val],?_,rfl⟩
  exact⟨z.1,rfl,own.freeze g h0 (mb.refl _ _) fun b hb=>⟨hp.wf b (CO b hb).1,bl.of rfl⟩⟩
def mm (w:Mk) (z:Sl):Mk:=fun b=>if b∈aS z then some (.res 0) else match w b with
 |some (.arg 0)=>none
 |τ=>τ
theorem Ho {w:Mk} {W W':World} {H:HP} {S:List Nat} {z s:Sl} (hp:Pre w W H) (hs:∀b,w b=some (.arg 0)↔b∈aS s) (mW:aV (aS s) W W') (hz:∀b∈aS z,b∈aS s∨xk W W' b):
 BJ w W (mm w z) W' H∧mb (aG w) (aG (mm w z)) W W':=by
 have rX:∀b,b∈aS z→w b=some (.arg 0)∨w b=none:=fun b hb=>by
  rcases hz b hb with h|h
  ·simp_all
  ·exact .inr (hp.wf b h.1)
 have other:∀b τ,τ≠Tag.arg 0→w b=some τ→mm w z b=some τ:=fun b τ bb hb=>by
  unfold mm
  grind
 have back:∀b τ,τ≠Tag.res 0→mm w z b=some τ→w b=some τ:=fun b τ bb hb=>by
  unfold mm at hb
  grind
 have same:∀τ,τ≠Tag.arg 0→∀b,w b=some τ→W'.heap[b]?=W.heap[b]?:=fun τ bb=>sH hp.wf mW fun b hb h=>by
  grind
 have alg:∀b,b<W.heap.size→w b=none→mm w z b=none:=fun b aY hb=>by
  unfold mm
  rw[if_neg (fun hm=>by
   rcases hz b hm with h|h
   ·grind
   ·have:=h.1;omega),hb]
 have RU:∀b,b<W.heap.size→w b=none→W'.heap[b]?=W.heap[b]?:=fun b aY hb=>mW.block b aY fun hm=>by grind
 have r8:mb (aG w) (aG (mm w z)) W W':=fun b hb aY=>⟨alg b aY hb,bl.of (RU b aY hb)⟩
 refine⟨⟨fun b hb=>?_,fun n=>(hp.ob n).bk r8 (fun b=>⟨⟨back b _ (by simp),other b _ (by simp)⟩,same _ (by simp) b⟩) fun j b=>⟨⟨back b _ (by simp),other b _ (by simp)⟩,same _ (by simp) b⟩,⟨mW.os,mW.tape,mW.output,mW.size,fun b hb h=>⟨alg b hb h,RU b hb h⟩,fun b h=>⟨other b _ (by simp) h,same _ (by simp) b h⟩,fun b h=>back b _ (by simp) h⟩⟩,r8⟩
 unfold mm
 rw[if_neg (fun hm=>by
  rcases hz b hm with h|h
  ·have:w b=some (.arg 0):=(hs b).2 h
   rw[hp.wf b (Nat.le_trans mW.size hb)] at this;simp_all
  ·have:=h.2;omega),hp.wf b (Nat.le_trans mW.size hb)]
theorem Mg {w:Mk} {W':World} {e:AK} {t:Nat} {z:Sl} {xs:List e.T} {css:List (List Value)} (Rw:∀b,w b≠some (.res 0)) (hl:css.length=xs.length) (hd:∀(i:Nat) cs x,css[i]?=some cs→xs[i]?=some x→bz (aG (mm w z)) W' e cs x) (ho:bX W' 0 t e.sz z css.flatten) (uY:z.len=xs.length):
 kW (mm w z) W' 0 [(false,.own e t)] [z.val] (xs,()):=by
 refine⟨z.val,[],rfl,rfl,[z.val],⟨z,rfl,⟨css,hl,hd,ho⟩,uY,fun b=>?_⟩,rfl⟩
 show mm w z b=some (.res 0)↔_
 unfold mm
 grind
theorem vH {k:Nat}:∀(css:List (List Value)) (n:Nat),(∀cs∈css,cs.length=k)→css.flatten.drop (n*k)=(css.drop n).flatten
 |_,0,_=>by simp
 |[],n+1,_=>by simp
 |c::css,n+1,h=>by
  have hc:=h c (by simp)
  rw[List.flatten_cons,List.drop_succ_cons,Nat.succ_mul,Nat.add_comm,←vH css n fun cs gU=>h cs (by simp_all),←hc,List.drop_append]
  simp
section
variable {α:Type} {D:List Value→α→Prop} {css OS:List (List Value)} {xs ys:List α}
theorem D8 (h1:∀(j:Nat) cs x,css[j]?=some cs→xs[j]?=some x→D cs x) (h2:∀(j:Nat) cs x,OS[j]?=some cs→ys[j]?=some x→D cs x) (hl:css.length=xs.length):∀(j:Nat) cs x,(css++OS)[j]?=some cs→(xs++ys)[j]?=some x→D cs x:=fun j cs x a b=>by
 grind
theorem Hp (h1:∀(j:Nat) cs x,css[j]?=some cs→xs[j]?=some x→D cs x) {n:Nat}:∀(j:Nat) cs x,(css.take n)[j]?=some cs→(xs.take n)[j]?=some x→D cs x:=fun j cs x a b=>h1 j cs x (tx a) (tx b)
theorem Hq (h1:∀(j:Nat) cs x,css[j]?=some cs→xs[j]?=some x→D cs x) {n:Nat}:∀(j:Nat) cs x,(css.drop n)[j]?=some cs→(xs.drop n)[j]?=some x→D cs x:=fun j cs x a b=>by
 grind
end
theorem yT {P:Program} {f:FuncId} {e:AK} {t:TypeId} {xs ys:List e.T} {i:Nat} (g:e.bd=true) (h0:e.sz≠0) (hi:i≤xs.length)
 (h:∀(W:World) (s v:Sl) (cs ds:List Value) (K:Sl×Unit→World→Prop),bX W 0 t e.sz s cs→Rs W e.sz v ds→(v.a=none→v.len=0∧v.cap=0)→(v.len≠0→∀b∈aS v,b∉aS s)→s.len=xs.length→v.len=ys.length→(∀u∈ds,u.oneCell'=true)→(∀u∈cs,u.oneCell'=true)→
  (∀r W',bX W' 0 t e.sz r (cs.take (i*e.sz)++ds++cs.drop (i*e.sz))→aV (aS s) W W'→(∀b∈aS r,b∈aS s∨xk W W' b)→r.len=s.len+v.len→K (r,()) W')→fL P f [s.val,.int .i64 i,v.val] [.one .sl] W K)
 {H:HP} {K:HT [(false,.own e t)]→HP→Prop} (hk:K (xs.take i++ys++xs.drop i,()) H):ae P f [(false,.own e t),(false,.one (.int .i64)),(false,.row e)] (xs,(i:Int),ys,()) [(false,.own e t)] H K:=fun w W vs hp ha=>by
 obtain⟨s,us,rfl,h1,ha⟩:=Me ha
 obtain⟨us,rfl,_,ha⟩:=D7 ha
 obtain⟨v,us,rfl,h2,ha⟩:=sW ha
 have ha:us=[]:=ha
 subst ha
 obtain⟨css,hl,hd,ho⟩:=h1.row
 obtain⟨OS,EC,hd2,AB,CN⟩:=qH h2
 have bF:=ff hl hd
 refine(h W s v css.flatten OS.flatten (fun z W'=>bX W' 0 t e.sz z.1 (css.flatten.take (i*e.sz)++OS.flatten++css.flatten.drop (i*e.sz))∧aV (aS s) W W'∧(∀b∈aS z.1,b∈aS s∨xk W W' b)∧z.1.len=s.len+v.len) ho CN h2.nil (fun RQ b hb hm=>?_) h1.len h2.len (m9 EC hd2) (m9 hl hd) fun r W' a1 a2 a3 a4=>⟨a1,a2,a3,a4⟩).mono fun e' W' ⟨z,he,hoz,mW,hz,uY⟩=>?_
 ·
  have hmb:=(h1.tag b).2 hm
  unfold aS at hb
  split at hb
  ·rename_i p ji
   simp only[List.mem_singleton] at hb
   subst hb
   cases hy:ys with
   |nil=>rw[hy] at h2;exact RQ h2.len
   |cons y r=>
    obtain⟨p',cs,h3,h4,_⟩:=h2.el 0 y (by simp_all)
    rw[ji] at h3
    injection h3 with h3
    subst h3
    have h4:w p.block=none:=h4
    simp_all
  simp_all
 obtain⟨eZ,r8⟩:=Ho (S:=[]) (z:=z.1) hp (fun b=>h1.tag b) mW hz
 refine⟨[z.1.val],(xs.take i++ys++xs.drop i,()),H,mm w z.1,by rw[he];rfl,hk,eZ,?_⟩
 have GC:∀(j:Nat) cs x,css[j]?=some cs→xs[j]?=some x→bz (aG (mm w z.1)) W' e cs x:=fun j cs x a b=>(hd j cs x a b).aG r8 g
 have atY:∀(j:Nat) cs x,OS[j]?=some cs→ys[j]?=some x→bz (aG (mm w z.1)) W' e cs x:=fun j cs x a b=>(hd2 j cs x a b).aG r8 g
 refine Mg (css:=css.take i++OS++css.drop i) (fun b=>hp.res b 0) (by simp_all) (D8 (D8 (Hp GC) atY (by grind)) (Hq GC) (by simp_all)) ?_ (by rw[uY,h1.len,h2.len];grind)
 rw[List.flatten_append,List.flatten_append,←qJ _ _ bF,←vH _ _ bF]
 omega
theorem yU {P:Program} {f:FuncId} {e:AK} {t:TypeId} {xs:List e.T} {i j:Nat} (g:e.bd=true) (h0:e.sz≠0) (hi:i≤j) (hj:j≤xs.length)
 (h:∀(W:World) (s:Sl) (cs:List Value) (K:Sl×Unit→World→Prop),bX W 0 t e.sz s cs→s.len=xs.length→(∀u∈cs,u.oneCell'=true)→
  (∀r W',bX W' 0 t e.sz r (cs.take (i*e.sz)++cs.drop (j*e.sz))→aV (aS s) W W'→(∀b∈aS r,b∈aS s)→r.len+(j - i)=s.len→K (r,()) W')→fL P f [s.val,.int .i64 i,.int .i64 j] [.one .sl] W K)
 {H:HP} {K:HT [(false,.own e t)]→HP→Prop} (hk:K (xs.take i++xs.drop j,()) H):ae P f [(false,.own e t),(false,.one (.int .i64)),(false,.one (.int .i64))] (xs,(i:Int),(j:Int),()) [(false,.own e t)] H K:=fun w W vs hp ha=>by
 obtain⟨s,us,rfl,h1,ha⟩:=Me ha
 obtain⟨us,rfl,_,ha⟩:=D7 ha
 obtain⟨us,rfl,_,ha⟩:=D7 ha
 have ha:us=[]:=ha
 subst ha
 obtain⟨css,hl,hd,ho⟩:=h1.row
 have bF:=ff hl hd
 refine(h W s css.flatten (fun z W'=>bX W' 0 t e.sz z.1 (css.flatten.take (i*e.sz)++css.flatten.drop (j*e.sz))∧aV (aS s) W W'∧(∀b∈aS z.1,b∈aS s)∧z.1.len+(j - i)=s.len) ho h1.len (m9 hl hd) fun r W' a1 a2 a3 a4=>⟨a1,a2,a3,a4⟩).mono fun e' W' ⟨z,he,hoz,mW,hz,uY⟩=>?_
 obtain⟨eZ,r8⟩:=Ho (S:=[]) (z:=z.1) hp (fun b=>h1.tag b) mW (fun b hb=>.inl (hz b hb))
 refine⟨[z.1.val],(xs.take i++xs.drop j,()),H,mm w z.1,by rw[he];rfl,hk,eZ,?_⟩
 have GC:∀(j:Nat) cs x,css[j]?=some cs→xs[j]?=some x→bz (aG (mm w z.1)) W' e cs x:=fun j cs x a b=>(hd j cs x a b).aG r8 g
 refine Mg (css:=css.take i++css.drop j) (fun b=>hp.res b 0) (by grind) (D8 (Hp GC) (Hq GC) (by grind)) ?_ (by have:=h1.len;grind)
 rw[List.flatten_append,←qJ _ _ bF,←vH _ _ bF]
 omega
def tz (w:Mk) (z:Sl):Mk:=fun b=>if b∈aS z then some (.res 0) else w b
theorem ID {P:Program} {f:FuncId} {e:AK} {t:TypeId} {xs:List e.T} (g:e.bd=true) (h0:e.sz≠0)
 (h:∀(W:World) (s:Sl) (cs:List Value),Rs W e.sz s cs→s.len=xs.length→(s.a=none→s.len=0∧s.cap=0)→(∀u∈cs,u.oneCell'=true)→fL P f [s.val] [.one .sl] W fun z W'=>bX W' 0 t e.sz z.1 cs∧z.1.len=s.len∧aV [] W W'∧∀b∈aS z.1,xk W W' b)
 {H:HP} {K:HT [(false,.own e t)]→HP→Prop} (hk:K (xs,()) H):ae P f [(false,.row e)] (xs,()) [(false,.own e t)] H K:=fun w W vs hp ha=>by
 obtain⟨s,us,rfl,h1,ha⟩:=sW ha
 have ha:us=[]:=ha
 subst ha
 obtain⟨css,hl,hd,bF,CN⟩:=qH h1
 refine(h W s css.flatten CN h1.len h1.nil (m9 hl hd)).mono fun e' W' ⟨z,he,ho,uY,mW,CO⟩=>?_
 have hold:∀b∈aS z.1,w b=none:=fun b hb=>hp.wf b (CO b hb).1
 have bk:∀b τ,w b=some τ→tz w z.1 b=some τ:=fun b τ hb=>by
  unfold tz;grind
 have back:∀b τ,τ≠Tag.res 0→tz w z.1 b=some τ→w b=some τ:=fun b τ bb hb=>by
  unfold tz at hb
  grind
 have aaw:∀b,b<W.heap.size→w b=none→tz w z.1 b=none:=fun b aY hb=>by
  unfold tz;rw[if_neg (fun hm=>by have:=(CO b hm).1;omega)];omega
 have r8:mb (aG w) (aG (tz w z.1)) W W':=fun b hb aY=>⟨aaw b aY hb,bl.of (mW.block b aY (by simp))⟩
 have oP:∀τ,∀b,w b=some τ→W'.heap[b]?=W.heap[b]?:=fun τ=>sH hp.wf mW (by simp)
 refine⟨[z.1.val],(xs,()),H,tz w z.1,?_,hk,⟨fun b hb=>?_,fun n=>(hp.ob n).bk r8 (fun b=>⟨⟨back b _ (by simp),bk b _⟩,oP _ b⟩) fun j b=>⟨⟨back b _ (by simp),bk b _⟩,oP _ b⟩,⟨mW.os,mW.tape,mW.output,mW.size,fun b hb h=>⟨aaw b hb h,mW.block b hb (by simp)⟩,fun b h=>⟨bk b _ h,oP _ b h⟩,fun b h=>back b _ (by simp) h⟩⟩,?_⟩
 ·rw[he];rfl
 ·unfold tz;rw[if_neg (fun hm=>by have:=(CO b hm).2;omega)];exact hp.wf b (Nat.le_trans mW.size hb)
 ·refine⟨z.1.val,[],rfl,rfl,[z.1.val],⟨z.1,rfl,⟨css,hl,fun i c x h2 h3=>(hd i c x h2 h3).aG r8 g,ho⟩,by rw[uY,h1.len],fun b=>?_⟩,rfl⟩
  show tz w z.1 b=some (.res 0)↔_
  constructor
  ·intro h
   unfold tz at h
   split at h
   ·omega
   ·exact absurd h (hp.res b 0)
  ·intro h;unfold tz;simp_all
def xx (w:Mk) (H:HP):Mk:=fun b=>match w b with
 |some (.ob n)=>(match H n with|some _=>some (.ob n)|none=>none)
 |some (.oo n j)=>(match H n with|some _=>some (.oo n j)|none=>none)
 |t=>t
theorem vI {w:Mk} {H:HP} {b:Nat} (h:w b=none):xx w H b=none:=by unfold xx;rw[h]
theorem vJ {w:Mk} {H:HP} {b:Nat} {t:Tag} (h1:∀n,t≠.ob n) (h2:∀n j,t≠.oo n j):xx w H b=some t↔w b=some t:=by
 unfold xx
 grind
theorem Mh {w:Mk} {H:HP} {b n:Nat}:xx w H b=some (.ob n)↔w b=some (.ob n)∧(H n).isSome:=by
 unfold xx
 grind
theorem Mi {w:Mk} {H:HP} {b n j:Nat}:xx w H b=some (.oo n j)↔w b=some (.oo n j)∧(H n).isSome:=by
 unfold xx
 grind
theorem wu {w w':Mk} {W:World} (hi:mb (aG w) (aG w') W W) (hs:∀j,kp w W w' W (.res j) (.res j)):∀{rs:List (Bool×AK)} {j:Nat} {us:List Value} {r:HT rs},fB rs=true→kW w W j rs us r→kW w' W j rs us r
 |[],_,_,_,_,h=>h
 |p::rs,j,us,r,hg,h=>by
  simp only[fB,Bool.and_eq_true] at hg
  obtain⟨v,zs,e,h1,cs,h2,h3⟩:=h
  exact⟨v,zs,e,wu hi hs hg.2 h1,cs,dJ.bk hi hg.1 (fun i _ _=>hs i) h2,h3⟩
theorem uU {P:Program} {f:FuncId} {ps:List (Bool×AK)} {xs:HT ps} {rs:List (Bool×AK)} {H:HP} {K:HT rs→HP→Prop} (hg:fB rs=true)
 (h:ae P f ps xs rs H fun r H'=>∃H1:HP,(∀m,(H1 m).isSome→H' m=H1 m)∧K r H1):ae P f ps xs rs H K:=fun w W vs hp ha=>by
 refine Calls.mono (h w W vs hp ha) fun e W' ⟨us,r,H',w',h1,⟨H1,h2,hk⟩,eZ,xc⟩=>?_
 have him:mb (aG w') (aG (xx w' H1)) W' W':=fun b hb _=>⟨vI hb,bl.of rfl⟩
 refine⟨us,r,H1,xx w' H1,h1,hk,⟨fun b hb=>vI (eZ.wf b hb),fun n=>?_,⟨eZ.since.os,eZ.since.tape,eZ.since.output,eZ.since.size,fun b hb h0=>?_,fun b hb=>?_,fun b hb=>?_⟩⟩,?_⟩
 ·cases hn:H1 n with
  |none=>
   refine fun b=>⟨fun hb=>?_,fun j hb=>?_⟩
   ·have:=(Mh.1 hb).2;simp_all
   ·have:=(Mi.1 hb).2;simp_all
  |some o=>
   have:=eZ.ob n
   rw[h2 n (by simp_all),hn] at this
   refine this.bk him (fun b=>⟨?_,fun _=>rfl⟩) fun j b=>⟨?_,fun _=>rfl⟩
   ·rw[Mh,hn];simp
   ·rw[Mi,hn];simp
 ·obtain⟨a1,a2⟩:=eZ.since.im b hb h0
  exact⟨vI a1,a2⟩
 ·obtain⟨a1,a2⟩:=eZ.since.ext b hb
  exact⟨(vJ (by simp) (by simp)).2 a1,a2⟩
 ·exact eZ.since.jn b ((vJ (by simp) (by simp)).1 hb)
 ·exact wu him (fun j b=>⟨vJ (by simp) (by simp),fun _=>rfl⟩) hg xc
theorem cq (H:HP) (n:Nat) (k:AK) (x:k.T):(H.set n k x) n=some ⟨k,x⟩:=if_pos rfl
theorem di {H:HP} {n m:Nat} {k:AK} {x:k.T} (h:m≠n):(H.set n k x) m=H m:=if_neg h
theorem hU {H:HP} {n:Nat} {k:AK} {x:k.T} (h:H n=some ⟨k,x⟩):H.set n k x=H:=by
 funext m
 unfold HP.set
 simp_all
theorem nT (H:HP) (n:Nat) (k k':AK) (x:k.T) (y:k'.T):(H.set n k x).set n k' y=H.set n k' y:=by
 funext m
 unfold HP.set
 simp_all
def HP.le (H H':HP):Prop:=∀m,(H m).isSome→H' m=H m
theorem HP.le.refl (H:HP):H.le H:=fun _ _=>rfl
theorem HP.le.trans {H H' tO:HP} (h:H.le H') (k:H'.le tO):H.le tO:=fun m hm=>by
 have:=h m hm
 rw[k m (by simp_all),this]
theorem dI {H:HP} {n:Nat} {k:AK} {x:k.T} (h:H n=none):H.le (H.set n k x):=fun m hm=>by
 have:m≠n:=fun e=>by simp_all
 exact di this
theorem HP.le.get {H H':HP} (h:H.le H') {n:Nat} {o:OB} (hn:H n=some o):H' n=some o:=by rw[h n (by simp_all),hn]
theorem HP.le.set {H H':HP} (h:H.le H') {n:Nat} {k:AK} {x:k.T}:(H.set n k x).le (H'.set n k x):=fun m hm=>by
 by_cases e:m=n
 ·subst e;rw[cq,cq]
 ·rw[di e] at hm⊢;rw[di e];exact h m hm
theorem aF {k:AK} {n:Nat} {H:HP} {x:k.T} {K:k.T→Prop} (hn:H n=some ⟨k,x⟩) (h:K x):aJ k n H K:=⟨x,hn,h⟩
theorem ax {n:Nat} {K:Nat→Prop} (h:K n):ao (some n) K:=⟨n,rfl,h⟩
theorem cI {P:Program} {f:FuncId} {ps:List (Bool×AK)} {xs:HT ps} {rs:List (Bool×AK)} {H:HP} {K:HT rs→Prop} (r:HT rs) (h:∀K':HT rs→HP→Prop,K' r H→ae P f ps xs rs H K') (hk:K r):fS P f ps xs rs H K:=⟨r,h,hk⟩
theorem jv {p:Addr} {K:Addr→Prop} (h:K p):pe (some p) K:=⟨p,rfl,h⟩
theorem uw {n:Nat} {r:List Nat} {K:Nat→List Nat→Prop} (h:K n r):By (n::r) K:=⟨n,r,rfl,h⟩
def Oe (b i sz:Nat):Addr:=⟨b,i*sz,none⟩
theorem jk {s:Sl} {m:Int} {b i sz:Nat} {K:Addr→Prop} (hs:s.a=some ⟨b,0,none⟩) (hm:m=(i:Int)) (hi:i<s.len) (h:K (Oe b i sz)):dF s m sz K:=by
 subst hm
 refine⟨by omega,by omega,_,hs,?_⟩
 rw[bw,Nat.zero_add,Int.toNat_natCast];exact h
def pT (H:HP) (b:Nat) (e:AK) (t:Nat) (s:Sl) (xs:List e.T):Prop:=H b=some ⟨.arr e t,(s,xs)⟩
theorem gT {e:AK} {H:HP} {b i t:Nat} {s:Sl} {xs:List e.T} {K:e.T→Prop} (hb:pT H b e t s xs) {x:e.T} (hx:xs[i]?=some x) (h:K x):jg e (Oe b i e.sz) H K:=⟨t,s,xs,i,x,hb,rfl,hx,h⟩
theorem wJ {e:AK} {H:HP} {b i t:Nat} {s:Sl} {xs:List e.T} {K:e.T→(e.T→HP)→Prop} (hb:pT H b e t s xs) {x:e.T} (hx:xs[i]?=some x) (h:K x fun y=>H.set b (.arr e t) (s,xs.set i y)):xQ e (Oe b i e.sz) H K:=⟨t,s,xs,i,x,hb,rfl,hx,h⟩
structure Kl (s:Sl) (b n:Nat):Prop where
 bR:s.a=some ⟨b,0,none⟩
 len:s.len=n
 cap:n≤s.cap
theorem xT {e:AK} {t:Nat} {xs:List e.T} {H:HP} {K:Sl→HP→Prop} (bb:xs≠[]) (h:∀s n,H n=none→Kl s n xs.length→K s (H.set n (.arr e t) (s,xs))):rM e t xs H K:=fun s H' hp=>by
 obtain⟨h1,h2,h3,h4⟩:=hp
 rcases h4 with⟨_,h5,_⟩|⟨n,h5,h6,rfl⟩
 ·simp_all
 ·exact h s n h6 ⟨h5,h1,by omega⟩
end Go.Ga
